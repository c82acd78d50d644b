/-
  ONE LAW OF A CHAPTER: its program side is run by an interpreter that is proved sound; what it computes is shown to be what the law says. No conditions. Part 6 of 7.
-/
import Derived.Test.YtbcdgfgacigaoaaGreatMSe
import Derived.Test.YtbcdgfgacigaoaaGreatProg
import Derived.KernelRfl
set_option linter.unusedSimpArgs false
set_option linter.unusedVariables false
set_option linter.unnecessarySimpa false
section
set_option maxRecDepth 100000
set_option linter.unusedVariables false
namespace Go.Proofs.YtbcdgfgacigaoaaGreat
open Go Go.Ab Go.Tx
noncomputable section
@[reducible] def I : Ty := .int .i64
@[reducible] def w64 (n : Int) : Int := IntKind.wrap .i64 n
def lookJ : List (List Tmp × FuncId × Kind × Join) → List Tmp → FuncId → Kind → Option Join
  | [], _, _, _ => none
  | (c, f, k, j) :: l, c', f', k' => if f = f' then (if k = k' then (if c = c' then some j else lookJ l c' f' k') else lookJ l c' f' k') else lookJ l c' f' k'
def awakeId : Nat := 12
def mkTH (js : List (List Tmp × FuncId × Kind × Join)) (inl : List (List Tmp × FuncId × Tmp)) : TH where
  lib := fun g => decide (g = awakeId)
  join := lookJ js
  inl := fun c f d => inl.any fun (c', f', d') => decide (f = f') && decide (d = d') && decide (c = c')
def Lb : FuncId → Option (List V → Option V) := fun g => if g = awakeId then some (fun args => match args with
    | [] => some (.val (.bool true))
    | _ => none) else none
theorem hJ {js : List (List Tmp × FuncId × Kind × Join)} {inl : List (List Tmp × FuncId × Tmp)} : ∀ g, (mkTH js inl).lib g = false → Lb g = none := fun g h => by
  simp only [mkTH, decide_eq_false_iff_not] at h
  simp [Lb, h]
def law04_awake : Option Bool := some true
def e_law04_awake : Entry := ⟨12, [], [(.bool, 0)], fun _ => law04_awake⟩
theorem o_law04_awake : EntryOk Tryz.prog Hn.hints Lb e_law04_awake := fun x y h vs hv => by
  obtain rfl : true = y := Option.some.inj h
  simp only [e_law04_awake, ofPms, RVL] at hv
  subst hv
  refine ⟨.val (.bool true), ⟨1, fun m hm => ?_⟩, by simp [packT, e_law04_awake, ofL, packedT, ofTy, RV, RTy]⟩
  obtain ⟨m', rfl⟩ : ∃ m', m = m' + 1 := ⟨m - 1, by omega⟩
  simp [orcN, Lb, awakeId, e_law04_awake]
def law04_fewOf (a0 : (List (List (Int × Int × Unit)))) (a1 : Int) : Option Bool :=
  bif decide ((a0.length : Int) > a1) then
    some false
  else
    (loopO (fun (s2 : Int) =>
        bif decide (s2 < (a0.length : Int)) then
          (idx a0 s2).bind fun x3 =>
          bif decide ((x3.length : Int) > 5) then
            some (.inr (.inr false))
          else
            some (.inl (w64 (s2 + 1)))
        else
          some (.inr (.inl ()))) 0).bind (Sum.elim (fun (p4 : Unit) =>
    some true) some)
def e_law04_fewOf : Entry := ⟨77, [.ty (.sl (.sl (.pair I (.pair I .unit)))), .ty I], [(.bool, 0)], fun x => law04_fewOf x.1 x.2⟩
def j_law04_fewOf : TH := mkTH [([], 77, .block 0, { lv := [], ps := [], abn := true, D := ⟨4193312⟩ }),
  ([], 77, .loop 0, { lv := [⟨none, 5, 0⟩], ps := [(I, 0)], D := ⟨4193312⟩ })] []
theorem k_law04_fewOf (x : denP e_law04_fewOf.ps) : fnT Tryz.prog Hn.hints j_law04_fewOf (tabT []) 40 77 (ofPms e_law04_fewOf.ps x) e_law04_fewOf.rs = e_law04_fewOf.F x := by kernel_rfl
theorem o_law04_fewOf : EntryOk Tryz.prog Hn.hints Lb e_law04_fewOf := entry_ok tab_nil hJ 40 _ _ _ _ k_law04_fewOf
def law04_few (a0 : (List (List (Int × Int × Unit)))) : Option Bool :=
  (law04_fewOf a0 (5 : Int)).bind fun x1 =>
  some x1
def e_law04_few : Entry := ⟨51, [.ty (.sl (.sl (.pair I (.pair I .unit))))], [(.bool, 0)], fun x => law04_few x⟩
def j_law04_few : TH := mkTH [] []
theorem k_law04_few (x : denP e_law04_few.ps) : fnT Tryz.prog Hn.hints j_law04_few (tabT [e_law04_fewOf]) 40 51 (ofPms e_law04_few.ps x) e_law04_few.rs = e_law04_few.F x := by kernel_rfl
theorem o_law04_few : EntryOk Tryz.prog Hn.hints Lb e_law04_few := entry_ok (tab_cons o_law04_fewOf tab_nil) hJ 40 _ _ _ _ k_law04_few
def base_CopyGausses (a0 : (List (Int × Int × Unit))) : Option (List (Int × Int × Unit)) :=
  (app [] a0).bind fun x1 =>
  some x1
def e_base_CopyGausses : Entry := ⟨22, [.ty (.sl (.pair I (.pair I .unit)))], [((.sl (.pair I (.pair I .unit))), 1)], fun x => base_CopyGausses x⟩
def j_base_CopyGausses : TH := mkTH [] []
theorem k_base_CopyGausses (x : denP e_base_CopyGausses.ps) : fnT Tryz.prog Hn.hints j_base_CopyGausses (tabT []) 40 22 (ofPms e_base_CopyGausses.ps x) e_base_CopyGausses.rs = e_base_CopyGausses.F x := by kernel_rfl
theorem o_base_CopyGausses : EntryOk Tryz.prog Hn.hints Lb e_base_CopyGausses := entry_ok tab_nil hJ 40 _ _ _ _ k_base_CopyGausses
def ref04_CopyMatrix (a0 : (List (List (Int × Int × Unit)))) : Option (List (List (Int × Int × Unit))) :=
  (loopO (fun (s3 : ((List (List (Int × Int × Unit))) × Int)) =>
      bif decide (s3.2 < (a0.length : Int)) then
        (idx a0 s3.2).bind fun x4 =>
        (base_CopyGausses x4).bind fun x5 =>
        (app s3.1 ([x5])).bind fun x6 =>
        some (.inl (x6, w64 (s3.2 + 1)))
      else
        some (.inr s3.1)) ([], 0)).bind fun (p7 : (List (List (Int × Int × Unit)))) =>
  some p7
def e_ref04_CopyMatrix : Entry := ⟨29, [.ty (.sl (.sl (.pair I (.pair I .unit))))], [((.sl (.sl (.pair I (.pair I .unit)))), 2)], fun x => ref04_CopyMatrix x⟩
def j_ref04_CopyMatrix : TH := mkTH [([], 29, .block 0, { lv := [⟨none, 3, 0⟩], ps := [((.sl (.sl (.pair I (.pair I .unit)))), 2)], D := ⟨524280⟩ }),
  ([], 29, .loop 0, { lv := [⟨none, 3, 0⟩, ⟨none, 4, 0⟩], ps := [((.sl (.sl (.pair I (.pair I .unit)))), 2), (I, 0)], D := ⟨524280⟩ })] []
theorem k_ref04_CopyMatrix (x : denP e_ref04_CopyMatrix.ps) : fnT Tryz.prog Hn.hints j_ref04_CopyMatrix (tabT [e_base_CopyGausses]) 40 29 (ofPms e_ref04_CopyMatrix.ps x) e_ref04_CopyMatrix.rs = e_ref04_CopyMatrix.F x := by kernel_rfl
theorem o_ref04_CopyMatrix : EntryOk Tryz.prog Hn.hints Lb e_ref04_CopyMatrix := entry_ok (tab_cons o_base_CopyGausses tab_nil) hJ 40 _ _ _ _ k_ref04_CopyMatrix
def drive_unless (a0 : Bool) (a1 : Int) : Option Int :=
  bif a0 then
    some 0
  else
    some a1
def e_drive_unless : Entry := ⟨80, [.ty .bool, .ty I], [(I, 0)], fun x => drive_unless x.1 x.2⟩
def j_drive_unless : TH := mkTH [] []
theorem k_drive_unless (x : denP e_drive_unless.ps) : fnT Tryz.prog Hn.hints j_drive_unless (tabT []) 40 80 (ofPms e_drive_unless.ps x) e_drive_unless.rs = e_drive_unless.F x := by kernel_rfl
theorem o_drive_unless : EntryOk Tryz.prog Hn.hints Lb e_drive_unless := entry_ok tab_nil hJ 40 _ _ _ _ k_drive_unless
def drive_first (a0 : (List Int)) : Option Int :=
  (loopO (fun (s2 : Int) =>
      bif decide (s2 < (a0.length : Int)) then
        (idx a0 s2).bind fun x3 =>
        bif !(decide (x3 = 0)) then
          some (.inr (.inr x3))
        else
          some (.inl (w64 (s2 + 1)))
      else
        some (.inr (.inl ()))) 0).bind (Sum.elim (fun (p4 : Unit) =>
  some 0) some)
def e_drive_first : Entry := ⟨79, [.ty (.sl I)], [(I, 0)], fun x => drive_first x⟩
def j_drive_first : TH := mkTH [([], 79, .block 0, { lv := [], ps := [], abn := true, D := ⟨32656⟩ }),
  ([], 79, .loop 0, { lv := [⟨none, 7, 0⟩], ps := [(I, 0)], D := ⟨32656⟩ })] []
theorem k_drive_first (x : denP e_drive_first.ps) : fnT Tryz.prog Hn.hints j_drive_first (tabT []) 40 79 (ofPms e_drive_first.ps x) e_drive_first.rs = e_drive_first.F x := by kernel_rfl
theorem o_drive_first : EntryOk Tryz.prog Hn.hints Lb e_drive_first := entry_ok tab_nil hJ 40 _ _ _ _ k_drive_first
def drive_within (a0 : Int) (a1 : Int) (a2 : Int) : Option Bool :=
  (bif decide (a1 ≤ a0) then
      some (decide (a0 ≤ a2))
    else
      some false).bind fun (p1 : Bool) =>
  some p1
def e_drive_within : Entry := ⟨81, [.ty I, .ty I, .ty I], [(.bool, 0)], fun x => drive_within x.1 x.2.1 x.2.2⟩
def j_drive_within : TH := mkTH [([], 81, .region 1, { lv := [⟨none, 6, 0⟩], ps := [(.bool, 0)], D := ⟨32704⟩ })] []
theorem k_drive_within (x : denP e_drive_within.ps) : fnT Tryz.prog Hn.hints j_drive_within (tabT []) 40 81 (ofPms e_drive_within.ps x) e_drive_within.rs = e_drive_within.F x := by kernel_rfl
theorem o_drive_within : EntryOk Tryz.prog Hn.hints Lb e_drive_within := entry_ok tab_nil hJ 40 _ _ _ _ k_drive_within
def drive_isSized (a0 : Int) (a1 : Int) : Option Bool :=
  (drive_within a0 (w64 (0 - a1)) a1).bind fun x1 =>
  some x1
def e_drive_isSized : Entry := ⟨152, [.ty I, .ty I], [(.bool, 0)], fun x => drive_isSized x.1 x.2⟩
def j_drive_isSized : TH := mkTH [] []
theorem k_drive_isSized (x : denP e_drive_isSized.ps) : fnT Tryz.prog Hn.hints j_drive_isSized (tabT [e_drive_within]) 40 152 (ofPms e_drive_isSized.ps x) e_drive_isSized.rs = e_drive_isSized.F x := by kernel_rfl
theorem o_drive_isSized : EntryOk Tryz.prog Hn.hints Lb e_drive_isSized := entry_ok (tab_cons o_drive_within tab_nil) hJ 40 _ _ _ _ k_drive_isSized
def drive_whole_isSized (a0 : (Int × Int × Unit)) (a1 : Int) : Option Bool :=
  ((drive_isSized a0.1 a1).bind fun x1 =>
    bif x1 then
      (drive_isSized a0.2.1 a1).bind fun x2 =>
      some x2
    else
      some false).bind fun (p3 : Bool) =>
  some p3
def e_drive_whole_isSized : Entry := ⟨105, [.ty (.pair I (.pair I .unit)), .ty I], [(.bool, 0)], fun x => drive_whole_isSized x.1 x.2⟩
def j_drive_whole_isSized : TH := mkTH [([], 105, .region 1, { lv := [⟨none, 4, 0⟩], ps := [(.bool, 0)], D := ⟨32752⟩, rs := [⟨0, 2⟩], Dn := ⟨31696⟩ })] []
theorem k_drive_whole_isSized (x : denP e_drive_whole_isSized.ps) : fnT Tryz.prog Hn.hints j_drive_whole_isSized (tabT [e_drive_isSized]) 40 105 (ofPms e_drive_whole_isSized.ps x) e_drive_whole_isSized.rs = e_drive_whole_isSized.F x := by kernel_rfl
theorem o_drive_whole_isSized : EntryOk Tryz.prog Hn.hints Lb e_drive_whole_isSized := entry_ok (tab_cons o_drive_isSized tab_nil) hJ 40 _ _ _ _ k_drive_whole_isSized
def drive_CheckMatrix_1 (a0 : (Int × Int × Unit)) : Option Bool :=
  (drive_whole_isSized a0 (20 : Int)).bind fun x1 =>
  some (!x1)
def e_drive_CheckMatrix_1 : Entry := ⟨187, [.ty (.pair I (.pair I .unit))], [(.bool, 0)], fun x => drive_CheckMatrix_1 x⟩
def j_drive_CheckMatrix_1 : TH := mkTH [] []
theorem k_drive_CheckMatrix_1 (x : denP e_drive_CheckMatrix_1.ps) : fnT Tryz.prog Hn.hints j_drive_CheckMatrix_1 (tabT [e_drive_whole_isSized]) 40 187 (ofPms e_drive_CheckMatrix_1.ps x) e_drive_CheckMatrix_1.rs = e_drive_CheckMatrix_1.F x := by kernel_rfl
theorem o_drive_CheckMatrix_1 : EntryOk Tryz.prog Hn.hints Lb e_drive_CheckMatrix_1 := entry_ok (tab_cons o_drive_whole_isSized tab_nil) hJ 40 _ _ _ _ k_drive_CheckMatrix_1
def slices_IndexFunc_Lapi_Gauss_api_Gauss_of_drive_CheckMatrix_1 (a0 : (List (Int × Int × Unit))) : Option Int :=
  (loopO (fun (s2 : Int) =>
      bif decide (s2 < (a0.length : Int)) then
        (idx a0 s2).bind fun x3 =>
        (drive_CheckMatrix_1 x3).bind fun x4 =>
        bif x4 then
          some (.inr (.inr s2))
        else
          some (.inl (w64 (s2 + 1)))
      else
        some (.inr (.inl ()))) 0).bind (Sum.elim (fun (p5 : Unit) =>
  some (-1)) some)
def e_slices_IndexFunc_Lapi_Gauss_api_Gauss_of_drive_CheckMatrix_1 : Entry := ⟨183, [.ty (.sl (.pair I (.pair I .unit))), .fn 187 []], [(I, 0)], fun x => slices_IndexFunc_Lapi_Gauss_api_Gauss_of_drive_CheckMatrix_1 x.1⟩
def j_slices_IndexFunc_Lapi_Gauss_api_Gauss_of_drive_CheckMatrix_1 : TH := mkTH [([], 183, .block 0, { lv := [], ps := [], abn := true, D := ⟨524064⟩ }),
  ([], 183, .loop 0, { lv := [⟨none, 8, 0⟩], ps := [(I, 0)], D := ⟨524064⟩ })] []
theorem k_slices_IndexFunc_Lapi_Gauss_api_Gauss_of_drive_CheckMatrix_1 (x : denP e_slices_IndexFunc_Lapi_Gauss_api_Gauss_of_drive_CheckMatrix_1.ps) : fnT Tryz.prog Hn.hints j_slices_IndexFunc_Lapi_Gauss_api_Gauss_of_drive_CheckMatrix_1 (tabT [e_drive_CheckMatrix_1]) 40 183 (ofPms e_slices_IndexFunc_Lapi_Gauss_api_Gauss_of_drive_CheckMatrix_1.ps x) e_slices_IndexFunc_Lapi_Gauss_api_Gauss_of_drive_CheckMatrix_1.rs = e_slices_IndexFunc_Lapi_Gauss_api_Gauss_of_drive_CheckMatrix_1.F x := by kernel_rfl
theorem o_slices_IndexFunc_Lapi_Gauss_api_Gauss_of_drive_CheckMatrix_1 : EntryOk Tryz.prog Hn.hints Lb e_slices_IndexFunc_Lapi_Gauss_api_Gauss_of_drive_CheckMatrix_1 := entry_ok (tab_cons o_drive_CheckMatrix_1 tab_nil) hJ 40 _ _ _ _ k_slices_IndexFunc_Lapi_Gauss_api_Gauss_of_drive_CheckMatrix_1
def slices_ContainsFunc_Lapi_Gauss_api_Gauss_of_drive_CheckMatrix_1 (a0 : (List (Int × Int × Unit))) : Option Bool :=
  (slices_IndexFunc_Lapi_Gauss_api_Gauss_of_drive_CheckMatrix_1 a0).bind fun x1 =>
  some (decide (x1 ≥ 0))
def e_slices_ContainsFunc_Lapi_Gauss_api_Gauss_of_drive_CheckMatrix_1 : Entry := ⟨145, [.ty (.sl (.pair I (.pair I .unit))), .fn 187 []], [(.bool, 0)], fun x => slices_ContainsFunc_Lapi_Gauss_api_Gauss_of_drive_CheckMatrix_1 x.1⟩
def j_slices_ContainsFunc_Lapi_Gauss_api_Gauss_of_drive_CheckMatrix_1 : TH := mkTH [] []
theorem k_slices_ContainsFunc_Lapi_Gauss_api_Gauss_of_drive_CheckMatrix_1 (x : denP e_slices_ContainsFunc_Lapi_Gauss_api_Gauss_of_drive_CheckMatrix_1.ps) : fnT Tryz.prog Hn.hints j_slices_ContainsFunc_Lapi_Gauss_api_Gauss_of_drive_CheckMatrix_1 (tabT [e_slices_IndexFunc_Lapi_Gauss_api_Gauss_of_drive_CheckMatrix_1]) 40 145 (ofPms e_slices_ContainsFunc_Lapi_Gauss_api_Gauss_of_drive_CheckMatrix_1.ps x) e_slices_ContainsFunc_Lapi_Gauss_api_Gauss_of_drive_CheckMatrix_1.rs = e_slices_ContainsFunc_Lapi_Gauss_api_Gauss_of_drive_CheckMatrix_1.F x := by kernel_rfl
theorem o_slices_ContainsFunc_Lapi_Gauss_api_Gauss_of_drive_CheckMatrix_1 : EntryOk Tryz.prog Hn.hints Lb e_slices_ContainsFunc_Lapi_Gauss_api_Gauss_of_drive_CheckMatrix_1 := entry_ok (tab_cons o_slices_IndexFunc_Lapi_Gauss_api_Gauss_of_drive_CheckMatrix_1 tab_nil) hJ 40 _ _ _ _ k_slices_ContainsFunc_Lapi_Gauss_api_Gauss_of_drive_CheckMatrix_1
def drive_CheckMatrix (a0 : (List (List (Int × Int × Unit)))) : Option (Int × Int) :=
  (drive_unless (decide ((a0.length : Int) > 0)) (10 : Int)).bind fun x1 =>
  (drive_unless (decide ((a0.length : Int) ≤ 3)) (8 : Int)).bind fun x2 =>
  (drive_first ([x1, x2])).bind fun x3 =>
  bif !(decide (x3 = 0)) then
    some (0, x3)
  else
    (loopO (fun (s5 : Int) =>
        bif decide (s5 < (a0.length : Int)) then
          (idx a0 s5).bind fun x6 =>
          (slices_ContainsFunc_Lapi_Gauss_api_Gauss_of_drive_CheckMatrix_1 x6).bind fun x7 =>
          (drive_unless (decide ((x6.length : Int) = (a0.length : Int))) (10 : Int)).bind fun x8 =>
          (drive_unless (!x7) (2 : Int)).bind fun x9 =>
          (drive_first ([x8, x9])).bind fun x10 =>
          bif !(decide (x10 = 0)) then
            some (.inr (.inr (s5, x10)))
          else
            some (.inl (w64 (s5 + 1)))
        else
          some (.inr (.inl ()))) 0).bind (Sum.elim (fun (p11 : Unit) =>
    some (0, 0)) some)
def e_drive_CheckMatrix : Entry := ⟨159, [.ty (.sl (.sl (.pair I (.pair I .unit))))], [(I, 0), (I, 0)], fun x => drive_CheckMatrix x⟩
def j_drive_CheckMatrix : TH := mkTH [([], 159, .block 0, { lv := [], ps := [], abn := true, D := ⟨140737471578592⟩ }),
  ([], 159, .loop 0, { lv := [⟨none, 24, 0⟩], ps := [(I, 0)], D := ⟨140737471578592⟩ })] []
theorem k_drive_CheckMatrix (x : denP e_drive_CheckMatrix.ps) : fnT Tryz.prog Hn.hints j_drive_CheckMatrix (tabT [e_drive_first, e_drive_unless, e_slices_ContainsFunc_Lapi_Gauss_api_Gauss_of_drive_CheckMatrix_1]) 40 159 (ofPms e_drive_CheckMatrix.ps x) e_drive_CheckMatrix.rs = e_drive_CheckMatrix.F x := by kernel_rfl
theorem o_drive_CheckMatrix : EntryOk Tryz.prog Hn.hints Lb e_drive_CheckMatrix := entry_ok (tab_cons o_drive_first (tab_cons o_drive_unless (tab_cons o_slices_ContainsFunc_Lapi_Gauss_api_Gauss_of_drive_CheckMatrix_1 tab_nil))) hJ 40 _ _ _ _ k_drive_CheckMatrix
def drive_matrixErr (a0 : (List (List (Int × Int × Unit)))) : Option Int :=
  (drive_CheckMatrix a0).bind fun x1 =>
  some x1.2
def e_drive_matrixErr : Entry := ⟨108, [.ty (.sl (.sl (.pair I (.pair I .unit))))], [(I, 0)], fun x => drive_matrixErr x⟩
def j_drive_matrixErr : TH := mkTH [] []
theorem k_drive_matrixErr (x : denP e_drive_matrixErr.ps) : fnT Tryz.prog Hn.hints j_drive_matrixErr (tabT [e_drive_CheckMatrix]) 40 108 (ofPms e_drive_matrixErr.ps x) e_drive_matrixErr.rs = e_drive_matrixErr.F x := by kernel_rfl
theorem o_drive_matrixErr : EntryOk Tryz.prog Hn.hints Lb e_drive_matrixErr := entry_ok (tab_cons o_drive_CheckMatrix tab_nil) hJ 40 _ _ _ _ k_drive_matrixErr
def drive_matrix_at (a0 : (List (List (Int × Int × Unit)))) (a1 : Int) (a2 : Int) : Option (Int × Int × Unit) :=
  (idx a0 a1).bind fun x1 =>
  (idx x1 a2).bind fun x2 =>
  some x2
def e_drive_matrix_at : Entry := ⟨87, [.ty (.sl (.sl (.pair I (.pair I .unit)))), .ty I, .ty I], [((.pair I (.pair I .unit)), 0)], fun x => drive_matrix_at x.1 x.2.1 x.2.2⟩
def j_drive_matrix_at : TH := mkTH [] []
theorem k_drive_matrix_at (x : denP e_drive_matrix_at.ps) : fnT Tryz.prog Hn.hints j_drive_matrix_at (tabT []) 40 87 (ofPms e_drive_matrix_at.ps x) e_drive_matrix_at.rs = e_drive_matrix_at.F x := by kernel_rfl
theorem o_drive_matrix_at : EntryOk Tryz.prog Hn.hints Lb e_drive_matrix_at := entry_ok tab_nil hJ 40 _ _ _ _ k_drive_matrix_at
def drive_matrix_without (a0 : (List (List (Int × Int × Unit)))) (a1 : Int) (a2 : Int) : Option (List (List (Int × Int × Unit))) :=
  (loopO (fun (s2 : ((List (List (Int × Int × Unit))) × Int)) =>
      bif decide (s2.2 < (a0.length : Int)) then
        (idx a0 s2.2).bind fun x3 =>
        (bif !(decide (s2.2 = a1)) then
            (slc x3 0 a2).bind fun x4 =>
            bif decide (a2 = a2) then
              (slc x3 (w64 (a2 + 1)) (x3.length : Int)).bind fun x5 =>
              (app x4 x5).bind fun x6 =>
              (app s2.1 ([x6])).bind fun x7 =>
              some x7
            else
              none
          else
            some s2.1).bind fun (p8 : (List (List (Int × Int × Unit)))) =>
        some (.inl (p8, w64 (s2.2 + 1)))
      else
        some (.inr s2.1)) ([], 0)).bind fun (p9 : (List (List (Int × Int × Unit)))) =>
  some p9
def e_drive_matrix_without : Entry := ⟨150, [.ty (.sl (.sl (.pair I (.pair I .unit)))), .ty I, .ty I], [((.sl (.sl (.pair I (.pair I .unit)))), 2001)], fun x => drive_matrix_without x.1 x.2.1 x.2.2⟩
def j_drive_matrix_without : TH := mkTH [([], 150, .block 0, { lv := [⟨none, 7, 0⟩], ps := [((.sl (.sl (.pair I (.pair I .unit)))), 2001)], D := ⟨8589931392⟩ }),
  ([], 150, .loop 0, { lv := [⟨none, 7, 0⟩, ⟨none, 12, 0⟩], ps := [((.sl (.sl (.pair I (.pair I .unit)))), 2001), (I, 0)], D := ⟨8589931392⟩ }),
  ([], 150, .cond 19, { lv := [⟨none, 7, 0⟩], ps := [((.sl (.sl (.pair I (.pair I .unit)))), 2001)], D := ⟨4293918848⟩ })] []
theorem k_drive_matrix_without (x : denP e_drive_matrix_without.ps) : fnT Tryz.prog Hn.hints j_drive_matrix_without (tabT []) 40 150 (ofPms e_drive_matrix_without.ps x) e_drive_matrix_without.rs = e_drive_matrix_without.F x := by kernel_rfl
theorem o_drive_matrix_without : EntryOk Tryz.prog Hn.hints Lb e_drive_matrix_without := entry_ok tab_nil hJ 40 _ _ _ _ k_drive_matrix_without
def drive_whole_times (a0 : (Int × Int × Unit)) (a1 : (Int × Int × Unit)) : Option (Int × Int × Unit) :=
  some (w64 ((w64 (a0.1 * a1.1)) - (w64 (a0.2.1 * a1.2.1))), w64 ((w64 (a0.1 * a1.2.1)) + (w64 (a0.2.1 * a1.1))), ())
def e_drive_whole_times : Entry := ⟨82, [.ty (.pair I (.pair I .unit)), .ty (.pair I (.pair I .unit))], [((.pair I (.pair I .unit)), 0)], fun x => drive_whole_times x.1 x.2⟩
def j_drive_whole_times : TH := mkTH [] []
theorem k_drive_whole_times (x : denP e_drive_whole_times.ps) : fnT Tryz.prog Hn.hints j_drive_whole_times (tabT []) 40 82 (ofPms e_drive_whole_times.ps x) e_drive_whole_times.rs = e_drive_whole_times.F x := by kernel_rfl
theorem o_drive_whole_times : EntryOk Tryz.prog Hn.hints Lb e_drive_whole_times := entry_ok tab_nil hJ 40 _ _ _ _ k_drive_whole_times
def drive_whole_minus (a0 : (Int × Int × Unit)) (a1 : (Int × Int × Unit)) : Option (Int × Int × Unit) :=
  some (w64 (a0.1 - a1.1), w64 (a0.2.1 - a1.2.1), ())
def e_drive_whole_minus : Entry := ⟨104, [.ty (.pair I (.pair I .unit)), .ty (.pair I (.pair I .unit))], [((.pair I (.pair I .unit)), 0)], fun x => drive_whole_minus x.1 x.2⟩
def j_drive_whole_minus : TH := mkTH [] []
theorem k_drive_whole_minus (x : denP e_drive_whole_minus.ps) : fnT Tryz.prog Hn.hints j_drive_whole_minus (tabT []) 40 104 (ofPms e_drive_whole_minus.ps x) e_drive_whole_minus.rs = e_drive_whole_minus.F x := by kernel_rfl
theorem o_drive_whole_minus : EntryOk Tryz.prog Hn.hints Lb e_drive_whole_minus := entry_ok tab_nil hJ 40 _ _ _ _ k_drive_whole_minus
def drive_whole_plus (a0 : (Int × Int × Unit)) (a1 : (Int × Int × Unit)) : Option (Int × Int × Unit) :=
  some (w64 (a0.1 + a1.1), w64 (a0.2.1 + a1.2.1), ())
def e_drive_whole_plus : Entry := ⟨154, [.ty (.pair I (.pair I .unit)), .ty (.pair I (.pair I .unit))], [((.pair I (.pair I .unit)), 0)], fun x => drive_whole_plus x.1 x.2⟩
def j_drive_whole_plus : TH := mkTH [] []
theorem k_drive_whole_plus (x : denP e_drive_whole_plus.ps) : fnT Tryz.prog Hn.hints j_drive_whole_plus (tabT []) 40 154 (ofPms e_drive_whole_plus.ps x) e_drive_whole_plus.rs = e_drive_whole_plus.F x := by kernel_rfl
theorem o_drive_whole_plus : EntryOk Tryz.prog Hn.hints Lb e_drive_whole_plus := entry_ok tab_nil hJ 40 _ _ _ _ k_drive_whole_plus
def drive_matrix_determinant_n (n : Nat) : (List (List (Int × Int × Unit))) → Option (Int × Int × Unit) :=
  Nat.rec (motive := fun _ => (List (List (Int × Int × Unit))) → Option (Int × Int × Unit)) (fun _ => none) (fun _ ih a0 =>
  bif decide ((a0.length : Int) = 0) then
    some (1, 0, ())
  else
    (loopO (fun (s2 : (Int × Int × Int)) =>
        bif decide (s2.1 < (a0.length : Int)) then
          (drive_matrix_at a0 (0 : Int) s2.1).bind fun x3 =>
          (drive_matrix_without a0 (0 : Int) s2.1).bind fun x4 =>
          (ih x4).bind fun x5 =>
          (drive_whole_times x3 x5).bind fun x6 =>
          (bif decide (s2.1.tmod 2 = 1) then
              (drive_whole_minus (0, 0, ()) x6).bind fun x7 =>
              some (x7.1, x7.2.1)
            else
              some (x6.1, x6.2.1)).bind fun (p8 : (Int × Int)) =>
          (drive_whole_plus (s2.2.1, s2.2.2, ()) (p8.1, p8.2, ())).bind fun x9 =>
          some (.inl (w64 (s2.1 + 1), x9.1, x9.2.1))
        else
          some (.inr (s2.2.1, s2.2.2))) (0, 0, 0)).bind fun (p10 : (Int × Int)) =>
    some (p10.1, p10.2, ())) n
def drive_matrix_determinant : (List (List (Int × Int × Unit))) → Option (Int × Int × Unit) := drive_matrix_determinant_n 12
def e_drive_matrix_determinant : Entry := ⟨136, [.ty (.sl (.sl (.pair I (.pair I .unit))))], [((.pair I (.pair I .unit)), 0)], fun x => drive_matrix_determinant x⟩
def j_drive_matrix_determinant : TH := mkTH [([], 136, .block 0, { lv := [⟨some 0, 3, 0⟩, ⟨some 0, 3, 1⟩], ps := [(I, 0), (I, 0)], D := ⟨8589930544⟩, wr := [⟨0, 3⟩, ⟨0, 5⟩] }),
  ([], 136, .loop 0, { lv := [⟨none, 12, 0⟩, ⟨some 0, 3, 0⟩, ⟨some 0, 3, 1⟩], ps := [(I, 0), (I, 0), (I, 0)], D := ⟨8589930544⟩, wr := [⟨0, 3⟩, ⟨0, 5⟩], rs := [⟨0, 5⟩], Dn := ⟨8589930512⟩ }),
  ([], 136, .cond 25, { lv := [⟨some 0, 5, 0⟩, ⟨some 0, 5, 1⟩], ps := [(I, 0), (I, 0)], D := ⟨469762048⟩, wr := [⟨0, 5⟩] })] []
def e_drive_matrix_determinant_n (n : Nat) : Entry := ⟨136, [.ty (.sl (.sl (.pair I (.pair I .unit))))], [((.pair I (.pair I .unit)), 0)], fun x => drive_matrix_determinant_n n x⟩
theorem k_drive_matrix_determinant (n : Nat) (x : denP (e_drive_matrix_determinant_n (n + 1)).ps) : fnT Tryz.prog Hn.hints j_drive_matrix_determinant (tabT [(e_drive_matrix_determinant_n n), e_drive_matrix_at, e_drive_matrix_without, e_drive_whole_minus, e_drive_whole_plus, e_drive_whole_times]) 40 136 (ofPms (e_drive_matrix_determinant_n (n + 1)).ps x) (e_drive_matrix_determinant_n (n + 1)).rs = (e_drive_matrix_determinant_n (n + 1)).F x := by kernel_rfl
theorem o_drive_matrix_determinant_n : ∀ n, EntryOk Tryz.prog Hn.hints Lb (e_drive_matrix_determinant_n n)
  | 0 => fun x y h => by cases (show none = some y from h)
  | n + 1 => entry_ok (tab_cons (o_drive_matrix_determinant_n n) (tab_cons o_drive_matrix_at (tab_cons o_drive_matrix_without (tab_cons o_drive_whole_minus (tab_cons o_drive_whole_plus (tab_cons o_drive_whole_times tab_nil)))))) hJ 40 _ _ _ _ (k_drive_matrix_determinant n)
theorem o_drive_matrix_determinant : EntryOk Tryz.prog Hn.hints Lb e_drive_matrix_determinant := o_drive_matrix_determinant_n 12
def drive_whole_conj (a0 : (Int × Int × Unit)) : Option (Int × Int × Unit) :=
  some (a0.1, w64 (0 - a0.2.1), ())
def e_drive_whole_conj : Entry := ⟨83, [.ty (.pair I (.pair I .unit))], [((.pair I (.pair I .unit)), 0)], fun x => drive_whole_conj x⟩
def j_drive_whole_conj : TH := mkTH [] []
theorem k_drive_whole_conj (x : denP e_drive_whole_conj.ps) : fnT Tryz.prog Hn.hints j_drive_whole_conj (tabT []) 40 83 (ofPms e_drive_whole_conj.ps x) e_drive_whole_conj.rs = e_drive_whole_conj.F x := by kernel_rfl
theorem o_drive_whole_conj : EntryOk Tryz.prog Hn.hints Lb e_drive_whole_conj := entry_ok tab_nil hJ 40 _ _ _ _ k_drive_whole_conj
def drive_matrix_inverse_1 (a0 : Int) (a1 : Int) (a2 : (List (List (Int × Int × Unit)))) (a3 : (Int × Int × Unit)) : Option (Int × Int × Unit) :=
  (drive_matrix_without a2 a1 a0).bind fun x1 =>
  (drive_matrix_determinant x1).bind fun x2 =>
  (drive_whole_conj a3).bind fun x3 =>
  (drive_whole_times x2 x3).bind fun x4 =>
  bif decide ((w64 (a0 + a1)).tmod 2 = 1) then
    (drive_whole_minus (0, 0, ()) x4).bind fun x5 =>
    some x5
  else
    some x4
def e_drive_matrix_inverse_1 : Entry := ⟨149, [.ty I, .ty I, .ptr (.sl (.sl (.pair I (.pair I .unit)))), .ptr (.pair I (.pair I .unit))], [((.pair I (.pair I .unit)), 0)], fun x => drive_matrix_inverse_1 x.1 x.2.1 x.2.2.1 x.2.2.2⟩
def j_drive_matrix_inverse_1 : TH := mkTH [] []
theorem k_drive_matrix_inverse_1 (x : denP e_drive_matrix_inverse_1.ps) : fnT Tryz.prog Hn.hints j_drive_matrix_inverse_1 (tabT [e_drive_matrix_determinant, e_drive_matrix_without, e_drive_whole_conj, e_drive_whole_minus, e_drive_whole_times]) 40 149 (ofPms e_drive_matrix_inverse_1.ps x) e_drive_matrix_inverse_1.rs = e_drive_matrix_inverse_1.F x := by kernel_rfl
theorem o_drive_matrix_inverse_1 : EntryOk Tryz.prog Hn.hints Lb e_drive_matrix_inverse_1 := entry_ok (tab_cons o_drive_matrix_determinant (tab_cons o_drive_matrix_without (tab_cons o_drive_whole_conj (tab_cons o_drive_whole_minus (tab_cons o_drive_whole_times tab_nil))))) hJ 40 _ _ _ _ k_drive_matrix_inverse_1
def drive_made_of_drive_matrix_inverse_1 (a0 : Int) (a1 : Int) (a2 : (List (List (Int × Int × Unit)))) (a3 : (Int × Int × Unit)) : Option (List (List (Int × Int × Unit))) :=
  (mkS ([] : (List (Int × Int × Unit))) a0).bind fun x1 =>
  bif decide (a0 = a0) then
    (loopO (fun (s3 : ((List (List (Int × Int × Unit))) × Int)) =>
        bif decide (s3.2 < (x1.length : Int)) then
          (loopO (fun (s5 : ((List (List (Int × Int × Unit))) × Int)) =>
              bif decide (s5.2 < a1) then
                (idx s5.1 s3.2).bind fun x6 =>
                (drive_matrix_inverse_1 s3.2 s5.2 a2 a3).bind fun x7 =>
                (idx s5.1 s3.2).bind fun x8 =>
                (app x8 ([x7])).bind fun x9 =>
                (idx s5.1 s3.2).bind fun x10 =>
                bif decide (s3.2 = s3.2) then
                  let l11 : (List (List (Int × Int × Unit))) := List.set s5.1 s3.2.toNat x9
                  some (.inl (l11, w64 (s5.2 + 1)))
                else
                  none
              else
                some (.inr s5.1)) (s3.1, 0)).bind fun (p12 : (List (List (Int × Int × Unit)))) =>
          some (.inl (p12, w64 (s3.2 + 1)))
        else
          some (.inr s3.1)) (x1, 0)).bind fun (p13 : (List (List (Int × Int × Unit)))) =>
    some p13
  else
    none
def e_drive_made_of_drive_matrix_inverse_1 : Entry := ⟨85, [.ty I, .ty I, .fn 149 [.p (.sl (.sl (.pair I (.pair I .unit)))), .p (.pair I (.pair I .unit))]], [((.sl (.sl (.pair I (.pair I .unit)))), 2)], fun x => drive_made_of_drive_matrix_inverse_1 x.1 x.2.1 x.2.2.1 x.2.2.2⟩
def j_drive_made_of_drive_matrix_inverse_1 : TH := mkTH [([], 85, .block 0, { lv := [⟨none, 7, 0⟩], ps := [((.sl (.sl (.pair I (.pair I .unit)))), 2)], D := ⟨68719467392⟩ }),
  ([], 85, .loop 0, { lv := [⟨none, 7, 0⟩, ⟨none, 14, 0⟩], ps := [((.sl (.sl (.pair I (.pair I .unit)))), 2), (I, 0)], D := ⟨68719467392⟩ }),
  ([], 85, .block 2, { lv := [⟨none, 7, 0⟩], ps := [((.sl (.sl (.pair I (.pair I .unit)))), 2)], D := ⟨34359476864⟩ }),
  ([], 85, .loop 2, { lv := [⟨none, 7, 0⟩, ⟨none, 18, 0⟩], ps := [((.sl (.sl (.pair I (.pair I .unit)))), 2), (I, 0)], D := ⟨34359476864⟩ })] []
theorem k_drive_made_of_drive_matrix_inverse_1 (x : denP e_drive_made_of_drive_matrix_inverse_1.ps) : fnT Tryz.prog Hn.hints j_drive_made_of_drive_matrix_inverse_1 (tabT [e_drive_matrix_inverse_1]) 40 85 (ofPms e_drive_made_of_drive_matrix_inverse_1.ps x) e_drive_made_of_drive_matrix_inverse_1.rs = e_drive_made_of_drive_matrix_inverse_1.F x := by kernel_rfl
theorem o_drive_made_of_drive_matrix_inverse_1 : EntryOk Tryz.prog Hn.hints Lb e_drive_made_of_drive_matrix_inverse_1 := entry_ok (tab_cons o_drive_matrix_inverse_1 tab_nil) hJ 40 _ _ _ _ k_drive_made_of_drive_matrix_inverse_1
def drive_divisor (a0 : (List Int)) : Option Int :=
  (loopO (fun (s2 : (Int × Int)) =>
      bif decide (s2.2 < (a0.length : Int)) then
        (idx a0 s2.2).bind fun x3 =>
        (loopO (fun (s5 : (Int × Int)) =>
            bif !(decide (s5.2 = 0)) then
              bif decide (s5.2 = 0) then
                none
              else
                some (.inl (s5.2, s5.1.tmod s5.2))
            else
              some (.inr s5.1)) (s2.1, x3)).bind fun (p6 : Int) =>
        some (.inl (p6, w64 (s2.2 + 1)))
      else
        some (.inr s2.1)) (0, 0)).bind fun (p7 : Int) =>
  some (max p7 (w64 (0 - p7)))
def e_drive_divisor : Entry := ⟨151, [.ty (.sl I)], [(I, 0)], fun x => drive_divisor x⟩
def j_drive_divisor : TH := mkTH [([], 151, .block 0, { lv := [⟨none, 3, 0⟩], ps := [(I, 0)], D := ⟨524072⟩ }),
  ([], 151, .loop 0, { lv := [⟨none, 3, 0⟩, ⟨none, 8, 0⟩], ps := [(I, 0), (I, 0)], D := ⟨524072⟩ }),
  ([], 151, .block 2, { lv := [⟨none, 3, 0⟩], ps := [(I, 0)], D := ⟨258088⟩ }),
  ([], 151, .loop 2, { lv := [⟨none, 3, 0⟩, ⟨none, 5, 0⟩], ps := [(I, 0), (I, 0)], D := ⟨258088⟩ })] []
theorem k_drive_divisor (x : denP e_drive_divisor.ps) : fnT Tryz.prog Hn.hints j_drive_divisor (tabT []) 40 151 (ofPms e_drive_divisor.ps x) e_drive_divisor.rs = e_drive_divisor.F x := by kernel_rfl
theorem o_drive_divisor : EntryOk Tryz.prog Hn.hints Lb e_drive_divisor := entry_ok tab_nil hJ 40 _ _ _ _ k_drive_divisor
def drive_quotient_1 (a0 : Int) (a1 : Int) (a2 : (List (List (Int × Int × Unit)))) (a3 : Int) : Option (Int × Int × Unit) :=
  (idx a2 a0).bind fun x1 =>
  (idx x1 a1).bind fun x2 =>
  bif decide (a3 = 0) then
    none
  else
    (idx a2 a0).bind fun x3 =>
    (idx x3 a1).bind fun x4 =>
    bif decide (a3 = 0) then
      none
    else
      some (w64 (x2.1.tdiv a3), w64 (x4.2.1.tdiv a3), ())
def e_drive_quotient_1 : Entry := ⟨176, [.ty I, .ty I, .ptr (.sl (.sl (.pair I (.pair I .unit)))), .ptr I], [((.pair I (.pair I .unit)), 0)], fun x => drive_quotient_1 x.1 x.2.1 x.2.2.1 x.2.2.2⟩
def j_drive_quotient_1 : TH := mkTH [] []
theorem k_drive_quotient_1 (x : denP e_drive_quotient_1.ps) : fnT Tryz.prog Hn.hints j_drive_quotient_1 (tabT []) 40 176 (ofPms e_drive_quotient_1.ps x) e_drive_quotient_1.rs = e_drive_quotient_1.F x := by kernel_rfl
theorem o_drive_quotient_1 : EntryOk Tryz.prog Hn.hints Lb e_drive_quotient_1 := entry_ok tab_nil hJ 40 _ _ _ _ k_drive_quotient_1
def drive_made_of_drive_quotient_1 (a0 : Int) (a1 : Int) (a2 : (List (List (Int × Int × Unit)))) (a3 : Int) : Option (List (List (Int × Int × Unit))) :=
  (mkS ([] : (List (Int × Int × Unit))) a0).bind fun x1 =>
  bif decide (a0 = a0) then
    (loopO (fun (s3 : ((List (List (Int × Int × Unit))) × Int)) =>
        bif decide (s3.2 < (x1.length : Int)) then
          (loopO (fun (s5 : ((List (List (Int × Int × Unit))) × Int)) =>
              bif decide (s5.2 < a1) then
                (idx s5.1 s3.2).bind fun x6 =>
                (drive_quotient_1 s3.2 s5.2 a2 a3).bind fun x7 =>
                (idx s5.1 s3.2).bind fun x8 =>
                (app x8 ([x7])).bind fun x9 =>
                (idx s5.1 s3.2).bind fun x10 =>
                bif decide (s3.2 = s3.2) then
                  let l11 : (List (List (Int × Int × Unit))) := List.set s5.1 s3.2.toNat x9
                  some (.inl (l11, w64 (s5.2 + 1)))
                else
                  none
              else
                some (.inr s5.1)) (s3.1, 0)).bind fun (p12 : (List (List (Int × Int × Unit)))) =>
          some (.inl (p12, w64 (s3.2 + 1)))
        else
          some (.inr s3.1)) (x1, 0)).bind fun (p13 : (List (List (Int × Int × Unit)))) =>
    some p13
  else
    none
def e_drive_made_of_drive_quotient_1 : Entry := ⟨85, [.ty I, .ty I, .fn 176 [.p (.sl (.sl (.pair I (.pair I .unit)))), .p I]], [((.sl (.sl (.pair I (.pair I .unit)))), 2)], fun x => drive_made_of_drive_quotient_1 x.1 x.2.1 x.2.2.1 x.2.2.2⟩
def j_drive_made_of_drive_quotient_1 : TH := mkTH [([], 85, .block 0, { lv := [⟨none, 7, 0⟩], ps := [((.sl (.sl (.pair I (.pair I .unit)))), 2)], D := ⟨68719467392⟩ }),
  ([], 85, .loop 0, { lv := [⟨none, 7, 0⟩, ⟨none, 14, 0⟩], ps := [((.sl (.sl (.pair I (.pair I .unit)))), 2), (I, 0)], D := ⟨68719467392⟩ }),
  ([], 85, .block 2, { lv := [⟨none, 7, 0⟩], ps := [((.sl (.sl (.pair I (.pair I .unit)))), 2)], D := ⟨34359476864⟩ }),
  ([], 85, .loop 2, { lv := [⟨none, 7, 0⟩, ⟨none, 18, 0⟩], ps := [((.sl (.sl (.pair I (.pair I .unit)))), 2), (I, 0)], D := ⟨34359476864⟩ })] []
theorem k_drive_made_of_drive_quotient_1 (x : denP e_drive_made_of_drive_quotient_1.ps) : fnT Tryz.prog Hn.hints j_drive_made_of_drive_quotient_1 (tabT [e_drive_quotient_1]) 40 85 (ofPms e_drive_made_of_drive_quotient_1.ps x) e_drive_made_of_drive_quotient_1.rs = e_drive_made_of_drive_quotient_1.F x := by kernel_rfl
theorem o_drive_made_of_drive_quotient_1 : EntryOk Tryz.prog Hn.hints Lb e_drive_made_of_drive_quotient_1 := entry_ok (tab_cons o_drive_quotient_1 tab_nil) hJ 40 _ _ _ _ k_drive_made_of_drive_quotient_1
def drive_quotient (a0 : (List (List (Int × Int × Unit)))) (a1 : Int) : Option (Int × (List (List (Int × Int × Unit))) × Unit) :=
  (loopO (fun (s2 : (Int × Int)) =>
      bif decide (s2.1 < (a0.length : Int)) then
        (idx a0 s2.1).bind fun x3 =>
        (loopO (fun (s5 : (Int × Int)) =>
            bif decide (s5.1 < (x3.length : Int)) then
              (idx x3 s5.1).bind fun x6 =>
              (drive_divisor ([s5.2, x6.1, x6.2.1])).bind fun x7 =>
              some (.inl (w64 (s5.1 + 1), x7))
            else
              some (.inr s5.2)) (0, s2.2)).bind fun (p8 : Int) =>
        some (.inl (w64 (s2.1 + 1), p8))
      else
        some (.inr s2.2)) (0, a1)).bind fun (p9 : Int) =>
  (idx a0 0).bind fun x10 =>
  (drive_made_of_drive_quotient_1 (a0.length : Int) (x10.length : Int) a0 p9).bind fun x11 =>
  bif decide (p9 = 0) then
    none
  else
    some (w64 (a1.tdiv p9), x11, ())
def e_drive_quotient : Entry := ⟨128, [.ty (.sl (.sl (.pair I (.pair I .unit)))), .ty I], [((.pair I (.pair (.sl (.sl (.pair I (.pair I .unit)))) .unit)), 2)], fun x => drive_quotient x.1 x.2⟩
def j_drive_quotient : TH := mkTH [([], 128, .block 0, { lv := [⟨some 0, 5, 0⟩], ps := [(I, 0)], D := ⟨8589919872⟩, wr := [⟨0, 5⟩, ⟨0, 9⟩] }),
  ([], 128, .loop 0, { lv := [⟨none, 14, 0⟩, ⟨some 0, 5, 0⟩], ps := [(I, 0), (I, 0)], D := ⟨8589919872⟩, wr := [⟨0, 5⟩, ⟨0, 9⟩] }),
  ([], 128, .block 2, { lv := [⟨some 0, 5, 0⟩], ps := [(I, 0)], D := ⟨4293920384⟩, wr := [⟨0, 5⟩, ⟨0, 9⟩] }),
  ([], 128, .loop 2, { lv := [⟨none, 20, 0⟩, ⟨some 0, 5, 0⟩], ps := [(I, 0), (I, 0)], D := ⟨4293920384⟩, wr := [⟨0, 5⟩, ⟨0, 9⟩], rs := [⟨0, 9⟩], Dn := ⟨4126147712⟩ })] []
theorem k_drive_quotient (x : denP e_drive_quotient.ps) : fnT Tryz.prog Hn.hints j_drive_quotient (tabT [e_drive_divisor, e_drive_made_of_drive_quotient_1]) 40 128 (ofPms e_drive_quotient.ps x) e_drive_quotient.rs = e_drive_quotient.F x := by kernel_rfl
theorem o_drive_quotient : EntryOk Tryz.prog Hn.hints Lb e_drive_quotient := entry_ok (tab_cons o_drive_divisor (tab_cons o_drive_made_of_drive_quotient_1 tab_nil)) hJ 40 _ _ _ _ k_drive_quotient
def drive_matrix_inverse (a0 : (List (List (Int × Int × Unit)))) (a1 : (Int × Int × Unit)) : Option (Int × (List (List (Int × Int × Unit))) × Unit) :=
  (drive_made_of_drive_matrix_inverse_1 (a0.length : Int) (a0.length : Int) a0 a1).bind fun x1 =>
  (drive_whole_conj a1).bind fun x2 =>
  (drive_whole_times a1 x2).bind fun x3 =>
  (drive_quotient x1 x3.1).bind fun x4 =>
  some x4
def e_drive_matrix_inverse : Entry := ⟨84, [.ty (.sl (.sl (.pair I (.pair I .unit)))), .ty (.pair I (.pair I .unit))], [((.pair I (.pair (.sl (.sl (.pair I (.pair I .unit)))) .unit)), 2)], fun x => drive_matrix_inverse x.1 x.2⟩
def j_drive_matrix_inverse : TH := mkTH [] []
theorem k_drive_matrix_inverse (x : denP e_drive_matrix_inverse.ps) : fnT Tryz.prog Hn.hints j_drive_matrix_inverse (tabT [e_drive_made_of_drive_matrix_inverse_1, e_drive_quotient, e_drive_whole_conj, e_drive_whole_times]) 40 84 (ofPms e_drive_matrix_inverse.ps x) e_drive_matrix_inverse.rs = e_drive_matrix_inverse.F x := by kernel_rfl
theorem o_drive_matrix_inverse : EntryOk Tryz.prog Hn.hints Lb e_drive_matrix_inverse := entry_ok (tab_cons o_drive_made_of_drive_matrix_inverse_1 (tab_cons o_drive_quotient (tab_cons o_drive_whole_conj (tab_cons o_drive_whole_times tab_nil)))) hJ 40 _ _ _ _ k_drive_matrix_inverse
def drive_InverseOf (a0 : (List (List (Int × Int × Unit)))) : Option ((Int × (List (List (Int × Int × Unit))) × Unit) × Int) :=
  (drive_matrixErr a0).bind fun x1 =>
  bif !(decide (x1 = 0)) then
    some ((0, [], ()), x1)
  else
    (drive_matrix_determinant a0).bind fun x2 =>
    let v3 : Bool := (bif decide (x2.1 = 0) then (bif decide (x2.2.1 = 0) then true else false) else false)
    bif v3 then
      some ((0, [], ()), 11)
    else
      (drive_matrix_inverse a0 x2).bind fun x4 =>
      some (x4, 0)
def e_drive_InverseOf : Entry := ⟨59, [.ty (.sl (.sl (.pair I (.pair I .unit))))], [((.pair I (.pair (.sl (.sl (.pair I (.pair I .unit)))) .unit)), 2), (I, 0)], fun x => drive_InverseOf x⟩
def j_drive_InverseOf : TH := mkTH [] []
theorem k_drive_InverseOf (x : denP e_drive_InverseOf.ps) : fnT Tryz.prog Hn.hints j_drive_InverseOf (tabT [e_drive_matrixErr, e_drive_matrix_determinant, e_drive_matrix_inverse]) 40 59 (ofPms e_drive_InverseOf.ps x) e_drive_InverseOf.rs = e_drive_InverseOf.F x := by kernel_rfl
theorem o_drive_InverseOf : EntryOk Tryz.prog Hn.hints Lb e_drive_InverseOf := entry_ok (tab_cons o_drive_matrixErr (tab_cons o_drive_matrix_determinant (tab_cons o_drive_matrix_inverse tab_nil))) hJ 40 _ _ _ _ k_drive_InverseOf
def drive_unit_1 (a0 : Int) (a1 : Int) : Option (Int × Int × Unit) :=
  bif decide (a0 = a1) then
    some (1, 0, ())
  else
    some (0, 0, ())
def e_drive_unit_1 : Entry := ⟨164, [.ty I, .ty I], [((.pair I (.pair I .unit)), 0)], fun x => drive_unit_1 x.1 x.2⟩
def j_drive_unit_1 : TH := mkTH [] []
theorem k_drive_unit_1 (x : denP e_drive_unit_1.ps) : fnT Tryz.prog Hn.hints j_drive_unit_1 (tabT []) 40 164 (ofPms e_drive_unit_1.ps x) e_drive_unit_1.rs = e_drive_unit_1.F x := by kernel_rfl
theorem o_drive_unit_1 : EntryOk Tryz.prog Hn.hints Lb e_drive_unit_1 := entry_ok tab_nil hJ 40 _ _ _ _ k_drive_unit_1
def drive_made_of_drive_unit_1 (a0 : Int) (a1 : Int) : Option (List (List (Int × Int × Unit))) :=
  (mkS ([] : (List (Int × Int × Unit))) a0).bind fun x1 =>
  bif decide (a0 = a0) then
    (loopO (fun (s3 : ((List (List (Int × Int × Unit))) × Int)) =>
        bif decide (s3.2 < (x1.length : Int)) then
          (loopO (fun (s5 : ((List (List (Int × Int × Unit))) × Int)) =>
              bif decide (s5.2 < a1) then
                (idx s5.1 s3.2).bind fun x6 =>
                (drive_unit_1 s3.2 s5.2).bind fun x7 =>
                (idx s5.1 s3.2).bind fun x8 =>
                (app x8 ([x7])).bind fun x9 =>
                (idx s5.1 s3.2).bind fun x10 =>
                bif decide (s3.2 = s3.2) then
                  let l11 : (List (List (Int × Int × Unit))) := List.set s5.1 s3.2.toNat x9
                  some (.inl (l11, w64 (s5.2 + 1)))
                else
                  none
              else
                some (.inr s5.1)) (s3.1, 0)).bind fun (p12 : (List (List (Int × Int × Unit)))) =>
          some (.inl (p12, w64 (s3.2 + 1)))
        else
          some (.inr s3.1)) (x1, 0)).bind fun (p13 : (List (List (Int × Int × Unit)))) =>
    some p13
  else
    none
def e_drive_made_of_drive_unit_1 : Entry := ⟨85, [.ty I, .ty I, .fn 164 []], [((.sl (.sl (.pair I (.pair I .unit)))), 2)], fun x => drive_made_of_drive_unit_1 x.1 x.2.1⟩
def j_drive_made_of_drive_unit_1 : TH := mkTH [([], 85, .block 0, { lv := [⟨none, 7, 0⟩], ps := [((.sl (.sl (.pair I (.pair I .unit)))), 2)], D := ⟨68719467392⟩ }),
  ([], 85, .loop 0, { lv := [⟨none, 7, 0⟩, ⟨none, 14, 0⟩], ps := [((.sl (.sl (.pair I (.pair I .unit)))), 2), (I, 0)], D := ⟨68719467392⟩ }),
  ([], 85, .block 2, { lv := [⟨none, 7, 0⟩], ps := [((.sl (.sl (.pair I (.pair I .unit)))), 2)], D := ⟨34359476864⟩ }),
  ([], 85, .loop 2, { lv := [⟨none, 7, 0⟩, ⟨none, 18, 0⟩], ps := [((.sl (.sl (.pair I (.pair I .unit)))), 2), (I, 0)], D := ⟨34359476864⟩ })] []
theorem k_drive_made_of_drive_unit_1 (x : denP e_drive_made_of_drive_unit_1.ps) : fnT Tryz.prog Hn.hints j_drive_made_of_drive_unit_1 (tabT [e_drive_unit_1]) 40 85 (ofPms e_drive_made_of_drive_unit_1.ps x) e_drive_made_of_drive_unit_1.rs = e_drive_made_of_drive_unit_1.F x := by kernel_rfl
theorem o_drive_made_of_drive_unit_1 : EntryOk Tryz.prog Hn.hints Lb e_drive_made_of_drive_unit_1 := entry_ok (tab_cons o_drive_unit_1 tab_nil) hJ 40 _ _ _ _ k_drive_made_of_drive_unit_1
def drive_unit (a0 : Int) : Option (List (List (Int × Int × Unit))) :=
  (drive_made_of_drive_unit_1 a0 a0).bind fun x1 =>
  some x1
def e_drive_unit : Entry := ⟨116, [.ty I], [((.sl (.sl (.pair I (.pair I .unit)))), 2)], fun x => drive_unit x⟩
def j_drive_unit : TH := mkTH [] []
theorem k_drive_unit (x : denP e_drive_unit.ps) : fnT Tryz.prog Hn.hints j_drive_unit (tabT [e_drive_made_of_drive_unit_1]) 40 116 (ofPms e_drive_unit.ps x) e_drive_unit.rs = e_drive_unit.F x := by kernel_rfl
theorem o_drive_unit : EntryOk Tryz.prog Hn.hints Lb e_drive_unit := entry_ok (tab_cons o_drive_made_of_drive_unit_1 tab_nil) hJ 40 _ _ _ _ k_drive_unit
def drive_matrix_scaled_1 (a0 : Int) (a1 : Int) (a2 : (List (List (Int × Int × Unit)))) (a3 : Int) : Option (Int × Int × Unit) :=
  (drive_matrix_at a2 a0 a1).bind fun x1 =>
  (drive_whole_times x1 (a3, 0, ())).bind fun x2 =>
  some x2
def e_drive_matrix_scaled_1 : Entry := ⟨165, [.ty I, .ty I, .ptr (.sl (.sl (.pair I (.pair I .unit)))), .ptr I], [((.pair I (.pair I .unit)), 0)], fun x => drive_matrix_scaled_1 x.1 x.2.1 x.2.2.1 x.2.2.2⟩
def j_drive_matrix_scaled_1 : TH := mkTH [] []
theorem k_drive_matrix_scaled_1 (x : denP e_drive_matrix_scaled_1.ps) : fnT Tryz.prog Hn.hints j_drive_matrix_scaled_1 (tabT [e_drive_matrix_at, e_drive_whole_times]) 40 165 (ofPms e_drive_matrix_scaled_1.ps x) e_drive_matrix_scaled_1.rs = e_drive_matrix_scaled_1.F x := by kernel_rfl
theorem o_drive_matrix_scaled_1 : EntryOk Tryz.prog Hn.hints Lb e_drive_matrix_scaled_1 := entry_ok (tab_cons o_drive_matrix_at (tab_cons o_drive_whole_times tab_nil)) hJ 40 _ _ _ _ k_drive_matrix_scaled_1
def drive_made_of_drive_matrix_scaled_1 (a0 : Int) (a1 : Int) (a2 : (List (List (Int × Int × Unit)))) (a3 : Int) : Option (List (List (Int × Int × Unit))) :=
  (mkS ([] : (List (Int × Int × Unit))) a0).bind fun x1 =>
  bif decide (a0 = a0) then
    (loopO (fun (s3 : ((List (List (Int × Int × Unit))) × Int)) =>
        bif decide (s3.2 < (x1.length : Int)) then
          (loopO (fun (s5 : ((List (List (Int × Int × Unit))) × Int)) =>
              bif decide (s5.2 < a1) then
                (idx s5.1 s3.2).bind fun x6 =>
                (drive_matrix_scaled_1 s3.2 s5.2 a2 a3).bind fun x7 =>
                (idx s5.1 s3.2).bind fun x8 =>
                (app x8 ([x7])).bind fun x9 =>
                (idx s5.1 s3.2).bind fun x10 =>
                bif decide (s3.2 = s3.2) then
                  let l11 : (List (List (Int × Int × Unit))) := List.set s5.1 s3.2.toNat x9
                  some (.inl (l11, w64 (s5.2 + 1)))
                else
                  none
              else
                some (.inr s5.1)) (s3.1, 0)).bind fun (p12 : (List (List (Int × Int × Unit)))) =>
          some (.inl (p12, w64 (s3.2 + 1)))
        else
          some (.inr s3.1)) (x1, 0)).bind fun (p13 : (List (List (Int × Int × Unit)))) =>
    some p13
  else
    none
def e_drive_made_of_drive_matrix_scaled_1 : Entry := ⟨85, [.ty I, .ty I, .fn 165 [.p (.sl (.sl (.pair I (.pair I .unit)))), .p I]], [((.sl (.sl (.pair I (.pair I .unit)))), 2)], fun x => drive_made_of_drive_matrix_scaled_1 x.1 x.2.1 x.2.2.1 x.2.2.2⟩
def j_drive_made_of_drive_matrix_scaled_1 : TH := mkTH [([], 85, .block 0, { lv := [⟨none, 7, 0⟩], ps := [((.sl (.sl (.pair I (.pair I .unit)))), 2)], D := ⟨68719467392⟩ }),
  ([], 85, .loop 0, { lv := [⟨none, 7, 0⟩, ⟨none, 14, 0⟩], ps := [((.sl (.sl (.pair I (.pair I .unit)))), 2), (I, 0)], D := ⟨68719467392⟩ }),
  ([], 85, .block 2, { lv := [⟨none, 7, 0⟩], ps := [((.sl (.sl (.pair I (.pair I .unit)))), 2)], D := ⟨34359476864⟩ }),
  ([], 85, .loop 2, { lv := [⟨none, 7, 0⟩, ⟨none, 18, 0⟩], ps := [((.sl (.sl (.pair I (.pair I .unit)))), 2), (I, 0)], D := ⟨34359476864⟩ })] []
theorem k_drive_made_of_drive_matrix_scaled_1 (x : denP e_drive_made_of_drive_matrix_scaled_1.ps) : fnT Tryz.prog Hn.hints j_drive_made_of_drive_matrix_scaled_1 (tabT [e_drive_matrix_scaled_1]) 40 85 (ofPms e_drive_made_of_drive_matrix_scaled_1.ps x) e_drive_made_of_drive_matrix_scaled_1.rs = e_drive_made_of_drive_matrix_scaled_1.F x := by kernel_rfl
theorem o_drive_made_of_drive_matrix_scaled_1 : EntryOk Tryz.prog Hn.hints Lb e_drive_made_of_drive_matrix_scaled_1 := entry_ok (tab_cons o_drive_matrix_scaled_1 tab_nil) hJ 40 _ _ _ _ k_drive_made_of_drive_matrix_scaled_1
def drive_matrix_scaled (a0 : (List (List (Int × Int × Unit)))) (a1 : Int) : Option (List (List (Int × Int × Unit))) :=
  (idx a0 0).bind fun x1 =>
  (drive_made_of_drive_matrix_scaled_1 (a0.length : Int) (x1.length : Int) a0 a1).bind fun x2 =>
  some x2
def e_drive_matrix_scaled : Entry := ⟨117, [.ty (.sl (.sl (.pair I (.pair I .unit)))), .ty I], [((.sl (.sl (.pair I (.pair I .unit)))), 2)], fun x => drive_matrix_scaled x.1 x.2⟩
def j_drive_matrix_scaled : TH := mkTH [] []
theorem k_drive_matrix_scaled (x : denP e_drive_matrix_scaled.ps) : fnT Tryz.prog Hn.hints j_drive_matrix_scaled (tabT [e_drive_made_of_drive_matrix_scaled_1]) 40 117 (ofPms e_drive_matrix_scaled.ps x) e_drive_matrix_scaled.rs = e_drive_matrix_scaled.F x := by kernel_rfl
theorem o_drive_matrix_scaled : EntryOk Tryz.prog Hn.hints Lb e_drive_matrix_scaled := entry_ok (tab_cons o_drive_made_of_drive_matrix_scaled_1 tab_nil) hJ 40 _ _ _ _ k_drive_matrix_scaled
def drive_matrix_times_1 (a0 : Int) (a1 : Int) (a2 : (List (List (Int × Int × Unit)))) (a3 : (List (List (Int × Int × Unit)))) : Option (Int × Int × Unit) :=
  (loopO (fun (s2 : (Int × Int × Int)) =>
      bif decide (s2.1 < (a2.length : Int)) then
        (drive_matrix_at a3 a0 s2.1).bind fun x3 =>
        (drive_matrix_at a2 s2.1 a1).bind fun x4 =>
        (drive_whole_times x3 x4).bind fun x5 =>
        (drive_whole_plus (s2.2.1, s2.2.2, ()) x5).bind fun x6 =>
        some (.inl (w64 (s2.1 + 1), x6.1, x6.2.1))
      else
        some (.inr (s2.2.1, s2.2.2))) (0, 0, 0)).bind fun (p7 : (Int × Int)) =>
  some (p7.1, p7.2, ())
def e_drive_matrix_times_1 : Entry := ⟨153, [.ty I, .ty I, .ptr (.sl (.sl (.pair I (.pair I .unit)))), .ptr (.sl (.sl (.pair I (.pair I .unit))))], [((.pair I (.pair I .unit)), 0)], fun x => drive_matrix_times_1 x.1 x.2.1 x.2.2.1 x.2.2.2⟩
def j_drive_matrix_times_1 : TH := mkTH [([], 153, .block 0, { lv := [⟨some 0, 7, 0⟩, ⟨some 0, 7, 1⟩], ps := [(I, 0), (I, 0)], D := ⟨67107072⟩, wr := [⟨0, 7⟩] }),
  ([], 153, .loop 0, { lv := [⟨none, 11, 0⟩, ⟨some 0, 7, 0⟩, ⟨some 0, 7, 1⟩], ps := [(I, 0), (I, 0), (I, 0)], D := ⟨67107072⟩, wr := [⟨0, 7⟩] })] []
theorem k_drive_matrix_times_1 (x : denP e_drive_matrix_times_1.ps) : fnT Tryz.prog Hn.hints j_drive_matrix_times_1 (tabT [e_drive_matrix_at, e_drive_whole_plus, e_drive_whole_times]) 40 153 (ofPms e_drive_matrix_times_1.ps x) e_drive_matrix_times_1.rs = e_drive_matrix_times_1.F x := by kernel_rfl
theorem o_drive_matrix_times_1 : EntryOk Tryz.prog Hn.hints Lb e_drive_matrix_times_1 := entry_ok (tab_cons o_drive_matrix_at (tab_cons o_drive_whole_plus (tab_cons o_drive_whole_times tab_nil))) hJ 40 _ _ _ _ k_drive_matrix_times_1
def drive_made_of_drive_matrix_times_1 (a0 : Int) (a1 : Int) (a2 : (List (List (Int × Int × Unit)))) (a3 : (List (List (Int × Int × Unit)))) : Option (List (List (Int × Int × Unit))) :=
  (mkS ([] : (List (Int × Int × Unit))) a0).bind fun x1 =>
  bif decide (a0 = a0) then
    (loopO (fun (s3 : ((List (List (Int × Int × Unit))) × Int)) =>
        bif decide (s3.2 < (x1.length : Int)) then
          (loopO (fun (s5 : ((List (List (Int × Int × Unit))) × Int)) =>
              bif decide (s5.2 < a1) then
                (idx s5.1 s3.2).bind fun x6 =>
                (drive_matrix_times_1 s3.2 s5.2 a2 a3).bind fun x7 =>
                (idx s5.1 s3.2).bind fun x8 =>
                (app x8 ([x7])).bind fun x9 =>
                (idx s5.1 s3.2).bind fun x10 =>
                bif decide (s3.2 = s3.2) then
                  let l11 : (List (List (Int × Int × Unit))) := List.set s5.1 s3.2.toNat x9
                  some (.inl (l11, w64 (s5.2 + 1)))
                else
                  none
              else
                some (.inr s5.1)) (s3.1, 0)).bind fun (p12 : (List (List (Int × Int × Unit)))) =>
          some (.inl (p12, w64 (s3.2 + 1)))
        else
          some (.inr s3.1)) (x1, 0)).bind fun (p13 : (List (List (Int × Int × Unit)))) =>
    some p13
  else
    none
def e_drive_made_of_drive_matrix_times_1 : Entry := ⟨85, [.ty I, .ty I, .fn 153 [.p (.sl (.sl (.pair I (.pair I .unit)))), .p (.sl (.sl (.pair I (.pair I .unit))))]], [((.sl (.sl (.pair I (.pair I .unit)))), 2)], fun x => drive_made_of_drive_matrix_times_1 x.1 x.2.1 x.2.2.1 x.2.2.2⟩
def j_drive_made_of_drive_matrix_times_1 : TH := mkTH [([], 85, .block 0, { lv := [⟨none, 7, 0⟩], ps := [((.sl (.sl (.pair I (.pair I .unit)))), 2)], D := ⟨68719467392⟩ }),
  ([], 85, .loop 0, { lv := [⟨none, 7, 0⟩, ⟨none, 14, 0⟩], ps := [((.sl (.sl (.pair I (.pair I .unit)))), 2), (I, 0)], D := ⟨68719467392⟩ }),
  ([], 85, .block 2, { lv := [⟨none, 7, 0⟩], ps := [((.sl (.sl (.pair I (.pair I .unit)))), 2)], D := ⟨34359476864⟩ }),
  ([], 85, .loop 2, { lv := [⟨none, 7, 0⟩, ⟨none, 18, 0⟩], ps := [((.sl (.sl (.pair I (.pair I .unit)))), 2), (I, 0)], D := ⟨34359476864⟩ })] []
theorem k_drive_made_of_drive_matrix_times_1 (x : denP e_drive_made_of_drive_matrix_times_1.ps) : fnT Tryz.prog Hn.hints j_drive_made_of_drive_matrix_times_1 (tabT [e_drive_matrix_times_1]) 40 85 (ofPms e_drive_made_of_drive_matrix_times_1.ps x) e_drive_made_of_drive_matrix_times_1.rs = e_drive_made_of_drive_matrix_times_1.F x := by kernel_rfl
theorem o_drive_made_of_drive_matrix_times_1 : EntryOk Tryz.prog Hn.hints Lb e_drive_made_of_drive_matrix_times_1 := entry_ok (tab_cons o_drive_matrix_times_1 tab_nil) hJ 40 _ _ _ _ k_drive_made_of_drive_matrix_times_1
def drive_matrix_times (a0 : (List (List (Int × Int × Unit)))) (a1 : (List (List (Int × Int × Unit)))) : Option (List (List (Int × Int × Unit))) :=
  (idx a1 0).bind fun x1 =>
  (drive_made_of_drive_matrix_times_1 (a0.length : Int) (x1.length : Int) a1 a0).bind fun x2 =>
  some x2
def e_drive_matrix_times : Entry := ⟨89, [.ty (.sl (.sl (.pair I (.pair I .unit)))), .ty (.sl (.sl (.pair I (.pair I .unit))))], [((.sl (.sl (.pair I (.pair I .unit)))), 2)], fun x => drive_matrix_times x.1 x.2⟩
def j_drive_matrix_times : TH := mkTH [] []
theorem k_drive_matrix_times (x : denP e_drive_matrix_times.ps) : fnT Tryz.prog Hn.hints j_drive_matrix_times (tabT [e_drive_made_of_drive_matrix_times_1]) 40 89 (ofPms e_drive_matrix_times.ps x) e_drive_matrix_times.rs = e_drive_matrix_times.F x := by kernel_rfl
theorem o_drive_matrix_times : EntryOk Tryz.prog Hn.hints Lb e_drive_matrix_times := entry_ok (tab_cons o_drive_made_of_drive_matrix_times_1 tab_nil) hJ 40 _ _ _ _ k_drive_matrix_times
def drive_whole_size (a0 : (Int × Int × Unit)) : Option Int :=
  some (w64 ((max a0.1 (w64 (0 - a0.1))) + (max a0.2.1 (w64 (0 - a0.2.1)))))
def e_drive_whole_size : Entry := ⟨166, [.ty (.pair I (.pair I .unit))], [(I, 0)], fun x => drive_whole_size x⟩
def j_drive_whole_size : TH := mkTH [] []
theorem k_drive_whole_size (x : denP e_drive_whole_size.ps) : fnT Tryz.prog Hn.hints j_drive_whole_size (tabT []) 40 166 (ofPms e_drive_whole_size.ps x) e_drive_whole_size.rs = e_drive_whole_size.F x := by kernel_rfl
theorem o_drive_whole_size : EntryOk Tryz.prog Hn.hints Lb e_drive_whole_size := entry_ok tab_nil hJ 40 _ _ _ _ k_drive_whole_size
def drive_matrix_rowSum (a0 : (List (List (Int × Int × Unit)))) : Option Int :=
  (loopO (fun (s2 : (Int × Int)) =>
      bif decide (s2.2 < (a0.length : Int)) then
        (idx a0 s2.2).bind fun x3 =>
        (loopO (fun (s5 : (Int × Int)) =>
            bif decide (s5.2 < (x3.length : Int)) then
              (drive_matrix_at a0 s2.2 s5.2).bind fun x6 =>
              (drive_whole_size x6).bind fun x7 =>
              some (.inl (w64 (s5.1 + x7), w64 (s5.2 + 1)))
            else
              some (.inr s5.1)) (0, 0)).bind fun (p8 : Int) =>
        some (.inl (max s2.1 p8, w64 (s2.2 + 1)))
      else
        some (.inr s2.1)) (0, 0)).bind fun (p9 : Int) =>
  some p9
def e_drive_matrix_rowSum : Entry := ⟨119, [.ty (.sl (.sl (.pair I (.pair I .unit))))], [(I, 0)], fun x => drive_matrix_rowSum x⟩
def j_drive_matrix_rowSum : TH := mkTH [([], 119, .block 0, { lv := [⟨none, 3, 0⟩], ps := [(I, 0)], D := ⟨4294966520⟩ }),
  ([], 119, .loop 0, { lv := [⟨none, 3, 0⟩, ⟨none, 10, 0⟩], ps := [(I, 0), (I, 0)], D := ⟨4294966520⟩ }),
  ([], 119, .block 2, { lv := [⟨none, 6, 0⟩], ps := [(I, 0)], D := ⟨268304608⟩ }),
  ([], 119, .loop 2, { lv := [⟨none, 6, 0⟩, ⟨none, 17, 0⟩], ps := [(I, 0), (I, 0)], D := ⟨268304608⟩ })] []
theorem k_drive_matrix_rowSum (x : denP e_drive_matrix_rowSum.ps) : fnT Tryz.prog Hn.hints j_drive_matrix_rowSum (tabT [e_drive_matrix_at, e_drive_whole_size]) 40 119 (ofPms e_drive_matrix_rowSum.ps x) e_drive_matrix_rowSum.rs = e_drive_matrix_rowSum.F x := by kernel_rfl
theorem o_drive_matrix_rowSum : EntryOk Tryz.prog Hn.hints Lb e_drive_matrix_rowSum := entry_ok (tab_cons o_drive_matrix_at (tab_cons o_drive_whole_size tab_nil)) hJ 40 _ _ _ _ k_drive_matrix_rowSum
def base_Within (a0 : Int) (a1 : Int) (a2 : Int) : Option Bool :=
  (bif decide (a1 ≤ a0) then
      some (decide (a0 ≤ a2))
    else
      some false).bind fun (p1 : Bool) =>
  some p1
def e_base_Within : Entry := ⟨18, [.ty I, .ty I, .ty I], [(.bool, 0)], fun x => base_Within x.1 x.2.1 x.2.2⟩
def j_base_Within : TH := mkTH [([], 18, .region 1, { lv := [⟨none, 6, 0⟩], ps := [(.bool, 0)], D := ⟨32704⟩ })] []
theorem k_base_Within (x : denP e_base_Within.ps) : fnT Tryz.prog Hn.hints j_base_Within (tabT []) 40 18 (ofPms e_base_Within.ps x) e_base_Within.rs = e_base_Within.F x := by kernel_rfl
theorem o_base_Within : EntryOk Tryz.prog Hn.hints Lb e_base_Within := entry_ok tab_nil hJ 40 _ _ _ _ k_base_Within
def ref04_isSized (a0 : (Int × Int × Unit)) (a1 : Int) : Option Bool :=
  ((base_Within a0.1 (w64 (0 - a1)) a1).bind fun x1 =>
    bif x1 then
      (base_Within a0.2.1 (w64 (0 - a1)) a1).bind fun x2 =>
      some x2
    else
      some false).bind fun (p3 : Bool) =>
  some p3
def e_ref04_isSized : Entry := ⟨114, [.ty (.pair I (.pair I .unit)), .ty I], [(.bool, 0)], fun x => ref04_isSized x.1 x.2⟩
def j_ref04_isSized : TH := mkTH [([], 114, .region 1, { lv := [⟨none, 4, 0⟩], ps := [(.bool, 0)], D := ⟨524272⟩, rs := [⟨0, 2⟩], Dn := ⟨520144⟩ })] []
theorem k_ref04_isSized (x : denP e_ref04_isSized.ps) : fnT Tryz.prog Hn.hints j_ref04_isSized (tabT [e_base_Within]) 40 114 (ofPms e_ref04_isSized.ps x) e_ref04_isSized.rs = e_ref04_isSized.F x := by kernel_rfl
theorem o_ref04_isSized : EntryOk Tryz.prog Hn.hints Lb e_ref04_isSized := entry_ok (tab_cons o_base_Within tab_nil) hJ 40 _ _ _ _ k_ref04_isSized
def ref04_CheckMatrix (a0 : (List (List (Int × Int × Unit)))) : Option (Int × Int) :=
  bif decide ((a0.length : Int) = 0) then
    some (0, 10)
  else
    bif decide ((a0.length : Int) > 3) then
      some (0, 8)
    else
      (loopO (fun (s2 : Int) =>
          bif decide (s2 < (a0.length : Int)) then
            (idx a0 s2).bind fun x3 =>
            bif !(decide ((x3.length : Int) = (a0.length : Int))) then
              some (.inr (.inr (s2, 10)))
            else
              (loopO (fun (s5 : Int) =>
                  (idx a0 s2).bind fun x6 =>
                  bif decide (s5 < (x6.length : Int)) then
                    (idx a0 s2).bind fun x7 =>
                    (idx x7 s5).bind fun x8 =>
                    (ref04_isSized x8 (20 : Int)).bind fun x9 =>
                    bif !x9 then
                      some (.inr (.inr (.inr (.inr (s2, 2)))))
                    else
                      some (.inl (w64 (s5 + 1)))
                  else
                    some (.inr (.inl ()))) 0).bind (Sum.elim (fun (p10 : Unit) =>
              some (.inl (w64 (s2 + 1)))) some)
          else
            some (.inr (.inl ()))) 0).bind (Sum.elim (fun (p11 : Unit) =>
      some (0, 0)) some)
def e_ref04_CheckMatrix : Entry := ⟨113, [.ty (.sl (.sl (.pair I (.pair I .unit))))], [(I, 0), (I, 0)], fun x => ref04_CheckMatrix x⟩
def j_ref04_CheckMatrix : TH := mkTH [([], 113, .block 0, { lv := [], ps := [], abn := true, D := ⟨70368744173616⟩ }),
  ([], 113, .loop 0, { lv := [⟨none, 4, 0⟩], ps := [(I, 0)], D := ⟨70368744173616⟩ }),
  ([], 113, .block 2, { lv := [], ps := [], abn := true, D := ⟨70368609959968⟩ }),
  ([], 113, .loop 2, { lv := [⟨none, 5, 0⟩], ps := [(I, 0)], D := ⟨70368609959968⟩ })] []
theorem k_ref04_CheckMatrix (x : denP e_ref04_CheckMatrix.ps) : fnT Tryz.prog Hn.hints j_ref04_CheckMatrix (tabT [e_ref04_isSized]) 40 113 (ofPms e_ref04_CheckMatrix.ps x) e_ref04_CheckMatrix.rs = e_ref04_CheckMatrix.F x := by kernel_rfl
theorem o_ref04_CheckMatrix : EntryOk Tryz.prog Hn.hints Lb e_ref04_CheckMatrix := entry_ok (tab_cons o_ref04_isSized tab_nil) hJ 40 _ _ _ _ k_ref04_CheckMatrix
def ref04_MatrixErr (a0 : (List (List (Int × Int × Unit)))) : Option Int :=
  (ref04_CheckMatrix a0).bind fun x1 =>
  some x1.2
def e_ref04_MatrixErr : Entry := ⟨33, [.ty (.sl (.sl (.pair I (.pair I .unit))))], [(I, 0)], fun x => ref04_MatrixErr x⟩
def j_ref04_MatrixErr : TH := mkTH [] []
theorem k_ref04_MatrixErr (x : denP e_ref04_MatrixErr.ps) : fnT Tryz.prog Hn.hints j_ref04_MatrixErr (tabT [e_ref04_CheckMatrix]) 40 33 (ofPms e_ref04_MatrixErr.ps x) e_ref04_MatrixErr.rs = e_ref04_MatrixErr.F x := by kernel_rfl
theorem o_ref04_MatrixErr : EntryOk Tryz.prog Hn.hints Lb e_ref04_MatrixErr := entry_ok (tab_cons o_ref04_CheckMatrix tab_nil) hJ 40 _ _ _ _ k_ref04_MatrixErr
def ref04_without (a0 : (List (List (Int × Int × Unit)))) (a1 : Int) (a2 : Int) : Option (List (List (Int × Int × Unit))) :=
  (loopO (fun (s2 : ((List (List (Int × Int × Unit))) × Int)) =>
      bif decide (s2.2 < (a0.length : Int)) then
        (bif decide (s2.2 = a1) then
            some s2.1
          else
            (loopO (fun (s4 : ((List (Int × Int × Unit)) × Int)) =>
                bif decide (s4.2 < (a0.length : Int)) then
                  (bif !(decide (s4.2 = a2)) then
                      (idx a0 s2.2).bind fun x5 =>
                      (idx x5 s4.2).bind fun x6 =>
                      (app s4.1 ([x6])).bind fun x7 =>
                      some x7
                    else
                      some s4.1).bind fun (p8 : (List (Int × Int × Unit))) =>
                  some (.inl (p8, w64 (s4.2 + 1)))
                else
                  some (.inr s4.1)) ([], 0)).bind fun (p9 : (List (Int × Int × Unit))) =>
            (app s2.1 ([p9])).bind fun x10 =>
            some x10).bind fun (p11 : (List (List (Int × Int × Unit)))) =>
        some (.inl (p11, w64 (s2.2 + 1)))
      else
        some (.inr s2.1)) ([], 0)).bind fun (p12 : (List (List (Int × Int × Unit)))) =>
  some p12
def e_ref04_without : Entry := ⟨138, [.ty (.sl (.sl (.pair I (.pair I .unit)))), .ty I, .ty I], [((.sl (.sl (.pair I (.pair I .unit)))), 2)], fun x => ref04_without x.1 x.2.1 x.2.2⟩
def j_ref04_without : TH := mkTH [([], 138, .block 0, { lv := [⟨none, 7, 0⟩], ps := [((.sl (.sl (.pair I (.pair I .unit)))), 2)], D := ⟨8796093022080⟩ }),
  ([], 138, .loop 0, { lv := [⟨none, 7, 0⟩, ⟨none, 8, 0⟩], ps := [((.sl (.sl (.pair I (.pair I .unit)))), 2), (I, 0)], D := ⟨8796093022080⟩ }),
  ([], 138, .block 1, { lv := [⟨none, 7, 0⟩], ps := [((.sl (.sl (.pair I (.pair I .unit)))), 2)], D := ⟨8796092892800⟩ }),
  ([], 138, .block 2, { lv := [⟨none, 9, 0⟩], ps := [((.sl (.pair I (.pair I .unit))), 1)], D := ⟨549754766848⟩ }),
  ([], 138, .loop 2, { lv := [⟨none, 9, 0⟩, ⟨none, 10, 0⟩], ps := [((.sl (.pair I (.pair I .unit))), 1), (I, 0)], D := ⟨549754766848⟩ }),
  ([], 138, .cond 28, { lv := [⟨none, 9, 0⟩], ps := [((.sl (.pair I (.pair I .unit))), 1)], D := ⟨549218943488⟩ })] []
theorem k_ref04_without (x : denP e_ref04_without.ps) : fnT Tryz.prog Hn.hints j_ref04_without (tabT []) 40 138 (ofPms e_ref04_without.ps x) e_ref04_without.rs = e_ref04_without.F x := by kernel_rfl
theorem o_ref04_without : EntryOk Tryz.prog Hn.hints Lb e_ref04_without := entry_ok tab_nil hJ 40 _ _ _ _ k_ref04_without
def base_GMul (a0 : (Int × Int × Unit)) (a1 : (Int × Int × Unit)) : Option (Int × Int × Unit) :=
  some (w64 ((w64 (a0.1 * a1.1)) - (w64 (a0.2.1 * a1.2.1))), w64 ((w64 (a0.1 * a1.2.1)) + (w64 (a0.2.1 * a1.1))), ())
def e_base_GMul : Entry := ⟨94, [.ty (.pair I (.pair I .unit)), .ty (.pair I (.pair I .unit))], [((.pair I (.pair I .unit)), 0)], fun x => base_GMul x.1 x.2⟩
def j_base_GMul : TH := mkTH [] []
theorem k_base_GMul (x : denP e_base_GMul.ps) : fnT Tryz.prog Hn.hints j_base_GMul (tabT []) 40 94 (ofPms e_base_GMul.ps x) e_base_GMul.rs = e_base_GMul.F x := by kernel_rfl
theorem o_base_GMul : EntryOk Tryz.prog Hn.hints Lb e_base_GMul := entry_ok tab_nil hJ 40 _ _ _ _ k_base_GMul
def base_Mod (a0 : Int) (a1 : Int) : Option Int :=
  bif decide (a1 = 0) then
    none
  else
    (bif decide (a0.tmod a1 < 0) then
        some (w64 ((a0.tmod a1) + a1))
      else
        some (a0.tmod a1)).bind fun (p1 : Int) =>
    some p1
def e_base_Mod : Entry := ⟨67, [.ty I, .ty I], [(I, 0)], fun x => base_Mod x.1 x.2⟩
def j_base_Mod : TH := mkTH [([], 67, .cond 9, { lv := [⟨none, 0, 0⟩], ps := [(I, 0)], D := ⟨7169⟩ })] []
theorem k_base_Mod (x : denP e_base_Mod.ps) : fnT Tryz.prog Hn.hints j_base_Mod (tabT []) 40 67 (ofPms e_base_Mod.ps x) e_base_Mod.rs = e_base_Mod.F x := by kernel_rfl
theorem o_base_Mod : EntryOk Tryz.prog Hn.hints Lb e_base_Mod := entry_ok tab_nil hJ 40 _ _ _ _ k_base_Mod
def base_GAdd (a0 : (Int × Int × Unit)) (a1 : (Int × Int × Unit)) : Option (Int × Int × Unit) :=
  some (w64 (a0.1 + a1.1), w64 (a0.2.1 + a1.2.1), ())
def e_base_GAdd : Entry := ⟨68, [.ty (.pair I (.pair I .unit)), .ty (.pair I (.pair I .unit))], [((.pair I (.pair I .unit)), 0)], fun x => base_GAdd x.1 x.2⟩
def j_base_GAdd : TH := mkTH [] []
theorem k_base_GAdd (x : denP e_base_GAdd.ps) : fnT Tryz.prog Hn.hints j_base_GAdd (tabT []) 40 68 (ofPms e_base_GAdd.ps x) e_base_GAdd.rs = e_base_GAdd.F x := by kernel_rfl
theorem o_base_GAdd : EntryOk Tryz.prog Hn.hints Lb e_base_GAdd := entry_ok tab_nil hJ 40 _ _ _ _ k_base_GAdd
def base_GSub (a0 : (Int × Int × Unit)) (a1 : (Int × Int × Unit)) : Option (Int × Int × Unit) :=
  some (w64 (a0.1 - a1.1), w64 (a0.2.1 - a1.2.1), ())
def e_base_GSub : Entry := ⟨41, [.ty (.pair I (.pair I .unit)), .ty (.pair I (.pair I .unit))], [((.pair I (.pair I .unit)), 0)], fun x => base_GSub x.1 x.2⟩
def j_base_GSub : TH := mkTH [] []
theorem k_base_GSub (x : denP e_base_GSub.ps) : fnT Tryz.prog Hn.hints j_base_GSub (tabT []) 40 41 (ofPms e_base_GSub.ps x) e_base_GSub.rs = e_base_GSub.F x := by kernel_rfl
theorem o_base_GSub : EntryOk Tryz.prog Hn.hints Lb e_base_GSub := entry_ok tab_nil hJ 40 _ _ _ _ k_base_GSub
def ref04_Determinant_n (n : Nat) : (List (List (Int × Int × Unit))) → Option (Int × Int × Unit) :=
  Nat.rec (motive := fun _ => (List (List (Int × Int × Unit))) → Option (Int × Int × Unit)) (fun _ => none) (fun _ ih a0 =>
  bif decide ((a0.length : Int) = 0) then
    some (1, 0, ())
  else
    (loopO (fun (s2 : (Int × Int × Int)) =>
        bif decide (s2.1 < (a0.length : Int)) then
          (idx a0 0).bind fun x3 =>
          (idx x3 s2.1).bind fun x4 =>
          (ref04_without a0 (0 : Int) s2.1).bind fun x5 =>
          (ih x5).bind fun x6 =>
          (base_GMul x4 x6).bind fun x7 =>
          (base_Mod s2.1 (2 : Int)).bind fun x8 =>
          (bif decide (x8 = 0) then
              (base_GAdd (s2.2.1, s2.2.2, ()) x7).bind fun x9 =>
              some (x9.1, x9.2.1)
            else
              (base_GSub (s2.2.1, s2.2.2, ()) x7).bind fun x10 =>
              some (x10.1, x10.2.1)).bind fun (p11 : (Int × Int)) =>
          some (.inl (w64 (s2.1 + 1), p11.1, p11.2))
        else
          some (.inr (s2.2.1, s2.2.2))) (0, 0, 0)).bind fun (p12 : (Int × Int)) =>
    some (p12.1, p12.2, ())) n
def ref04_Determinant : (List (List (Int × Int × Unit))) → Option (Int × Int × Unit) := ref04_Determinant_n 12
def e_ref04_Determinant : Entry := ⟨69, [.ty (.sl (.sl (.pair I (.pair I .unit))))], [((.pair I (.pair I .unit)), 0)], fun x => ref04_Determinant x⟩
def j_ref04_Determinant : TH := mkTH [([], 69, .block 0, { lv := [⟨some 0, 3, 0⟩, ⟨some 0, 3, 1⟩], ps := [(I, 0), (I, 0)], D := ⟨68719475760⟩, wr := [⟨0, 3⟩, ⟨0, 5⟩] }),
  ([], 69, .loop 0, { lv := [⟨none, 4, 0⟩, ⟨some 0, 3, 0⟩, ⟨some 0, 3, 1⟩], ps := [(I, 0), (I, 0), (I, 0)], D := ⟨68719475760⟩, wr := [⟨0, 3⟩, ⟨0, 5⟩], rs := [⟨0, 5⟩], Dn := ⟨68719475728⟩ }),
  ([], 69, .cond 29, { lv := [⟨some 0, 3, 0⟩, ⟨some 0, 3, 1⟩], ps := [(I, 0), (I, 0)], D := ⟨67645734912⟩, wr := [⟨0, 3⟩] })] []
def e_ref04_Determinant_n (n : Nat) : Entry := ⟨69, [.ty (.sl (.sl (.pair I (.pair I .unit))))], [((.pair I (.pair I .unit)), 0)], fun x => ref04_Determinant_n n x⟩
theorem k_ref04_Determinant (n : Nat) (x : denP (e_ref04_Determinant_n (n + 1)).ps) : fnT Tryz.prog Hn.hints j_ref04_Determinant (tabT [(e_ref04_Determinant_n n), e_base_GAdd, e_base_GMul, e_base_GSub, e_base_Mod, e_ref04_without]) 40 69 (ofPms (e_ref04_Determinant_n (n + 1)).ps x) (e_ref04_Determinant_n (n + 1)).rs = (e_ref04_Determinant_n (n + 1)).F x := by kernel_rfl
theorem o_ref04_Determinant_n : ∀ n, EntryOk Tryz.prog Hn.hints Lb (e_ref04_Determinant_n n)
  | 0 => fun x y h => by cases (show none = some y from h)
  | n + 1 => entry_ok (tab_cons (o_ref04_Determinant_n n) (tab_cons o_base_GAdd (tab_cons o_base_GMul (tab_cons o_base_GSub (tab_cons o_base_Mod (tab_cons o_ref04_without tab_nil)))))) hJ 40 _ _ _ _ (k_ref04_Determinant n)
theorem o_ref04_Determinant : EntryOk Tryz.prog Hn.hints Lb e_ref04_Determinant := o_ref04_Determinant_n 12
def base_Size (a0 : Int) : Option Int :=
  some (max a0 (w64 (0 - a0)))
def e_base_Size : Entry := ⟨42, [.ty I], [(I, 0)], fun x => base_Size x⟩
def j_base_Size : TH := mkTH [] []
theorem k_base_Size (x : denP e_base_Size.ps) : fnT Tryz.prog Hn.hints j_base_Size (tabT []) 40 42 (ofPms e_base_Size.ps x) e_base_Size.rs = e_base_Size.F x := by kernel_rfl
theorem o_base_Size : EntryOk Tryz.prog Hn.hints Lb e_base_Size := entry_ok tab_nil hJ 40 _ _ _ _ k_base_Size
def base_Gcd (a0 : Int) (a1 : Int) : Option Int :=
  (loopO (fun (s2 : (Int × Int)) =>
      bif !(decide (s2.2 = 0)) then
        bif decide (s2.2 = 0) then
          none
        else
          some (.inl (s2.2, s2.1.tmod s2.2))
      else
        some (.inr s2.1)) (a0, a1)).bind fun (p3 : Int) =>
  (base_Size p3).bind fun x4 =>
  some x4
def e_base_Gcd : Entry := ⟨155, [.ty I, .ty I], [(I, 0)], fun x => base_Gcd x.1 x.2⟩
def j_base_Gcd : TH := mkTH [([], 155, .block 0, { lv := [⟨none, 0, 0⟩], ps := [(I, 0)], D := ⟨2019⟩ }),
  ([], 155, .loop 0, { lv := [⟨none, 0, 0⟩, ⟨none, 1, 0⟩], ps := [(I, 0), (I, 0)], D := ⟨2019⟩ })] []
theorem k_base_Gcd (x : denP e_base_Gcd.ps) : fnT Tryz.prog Hn.hints j_base_Gcd (tabT [e_base_Size]) 40 155 (ofPms e_base_Gcd.ps x) e_base_Gcd.rs = e_base_Gcd.F x := by kernel_rfl
theorem o_base_Gcd : EntryOk Tryz.prog Hn.hints Lb e_base_Gcd := entry_ok (tab_cons o_base_Size tab_nil) hJ 40 _ _ _ _ k_base_Gcd
def ref04_Product (a0 : (List (List (Int × Int × Unit)))) (a1 : (List (List (Int × Int × Unit)))) : Option (List (List (Int × Int × Unit))) :=
  (loopO (fun (s3 : ((List (List (Int × Int × Unit))) × Int)) =>
      bif decide (s3.2 < (a0.length : Int)) then
        (loopO (fun (s6 : ((List (Int × Int × Unit)) × Int)) =>
            (idx a1 0).bind fun x7 =>
            bif decide (s6.2 < (x7.length : Int)) then
              (loopO (fun (s9 : (Int × Int × Int)) =>
                  bif decide (s9.1 < (a1.length : Int)) then
                    (idx a0 s3.2).bind fun x10 =>
                    (idx x10 s9.1).bind fun x11 =>
                    (idx a1 s9.1).bind fun x12 =>
                    (idx x12 s6.2).bind fun x13 =>
                    (base_GMul x11 x13).bind fun x14 =>
                    (base_GAdd (s9.2.1, s9.2.2, ()) x14).bind fun x15 =>
                    some (.inl (w64 (s9.1 + 1), x15.1, x15.2.1))
                  else
                    some (.inr (s9.2.1, s9.2.2))) (0, 0, 0)).bind fun (p16 : (Int × Int)) =>
              (app s6.1 ([(p16.1, p16.2, ())])).bind fun x17 =>
              some (.inl (x17, w64 (s6.2 + 1)))
            else
              some (.inr s6.1)) ([], 0)).bind fun (p18 : (List (Int × Int × Unit))) =>
        (app s3.1 ([p18])).bind fun x19 =>
        some (.inl (x19, w64 (s3.2 + 1)))
      else
        some (.inr s3.1)) ([], 0)).bind fun (p20 : (List (List (Int × Int × Unit)))) =>
  some p20
def e_ref04_Product : Entry := ⟨92, [.ty (.sl (.sl (.pair I (.pair I .unit)))), .ty (.sl (.sl (.pair I (.pair I .unit))))], [((.sl (.sl (.pair I (.pair I .unit)))), 2)], fun x => ref04_Product x.1 x.2⟩
def j_ref04_Product : TH := mkTH [([], 92, .block 0, { lv := [⟨none, 5, 0⟩], ps := [((.sl (.sl (.pair I (.pair I .unit)))), 2)], D := ⟨72057594037927904⟩, wr := [⟨0, 9⟩] }),
  ([], 92, .loop 0, { lv := [⟨none, 5, 0⟩, ⟨none, 6, 0⟩], ps := [((.sl (.sl (.pair I (.pair I .unit)))), 2), (I, 0)], D := ⟨72057594037927904⟩, wr := [⟨0, 9⟩] }),
  ([], 92, .block 2, { lv := [⟨none, 7, 0⟩], ps := [((.sl (.pair I (.pair I .unit))), 1)], D := ⟨4503599627241344⟩, wr := [⟨0, 9⟩] }),
  ([], 92, .loop 2, { lv := [⟨none, 7, 0⟩, ⟨none, 8, 0⟩], ps := [((.sl (.pair I (.pair I .unit))), 1), (I, 0)], D := ⟨4503599627241344⟩, wr := [⟨0, 9⟩], rs := [⟨0, 9⟩], Dn := ⟨4503599627240832⟩ }),
  ([], 92, .block 4, { lv := [⟨some 0, 9, 0⟩, ⟨some 0, 9, 1⟩], ps := [(I, 0), (I, 0)], D := ⟨281474943157248⟩, wr := [⟨0, 9⟩] }),
  ([], 92, .loop 4, { lv := [⟨none, 10, 0⟩, ⟨some 0, 9, 0⟩, ⟨some 0, 9, 1⟩], ps := [(I, 0), (I, 0), (I, 0)], D := ⟨281474943157248⟩, wr := [⟨0, 9⟩] })] []
theorem k_ref04_Product (x : denP e_ref04_Product.ps) : fnT Tryz.prog Hn.hints j_ref04_Product (tabT [e_base_GAdd, e_base_GMul]) 40 92 (ofPms e_ref04_Product.ps x) e_ref04_Product.rs = e_ref04_Product.F x := by kernel_rfl
theorem o_ref04_Product : EntryOk Tryz.prog Hn.hints Lb e_ref04_Product := entry_ok (tab_cons o_base_GAdd (tab_cons o_base_GMul tab_nil)) hJ 40 _ _ _ _ k_ref04_Product
def ref04_one (a0 : Int) (a1 : Int) : Option (List (List (Int × Int × Unit))) :=
  (loopO (fun (s3 : ((List (List (Int × Int × Unit))) × Int)) =>
      bif decide (s3.2 < a0) then
        (mkS (0, 0, ()) a0).bind fun x4 =>
        bif decide (a0 = a0) then
          (idx x4 s3.2).bind fun x5 =>
          (idx x4 s3.2).bind fun x6 =>
          let l7 : (List (Int × Int × Unit)) := List.set x4 s3.2.toNat (a1, 0, ())
          (app s3.1 ([l7])).bind fun x8 =>
          some (.inl (x8, w64 (s3.2 + 1)))
        else
          none
      else
        some (.inr s3.1)) ([], 0)).bind fun (p9 : (List (List (Int × Int × Unit)))) =>
  some p9
def e_ref04_one : Entry := ⟨120, [.ty I, .ty I], [((.sl (.sl (.pair I (.pair I .unit)))), 2)], fun x => ref04_one x.1 x.2⟩
def j_ref04_one : TH := mkTH [([], 120, .block 0, { lv := [⟨none, 5, 0⟩], ps := [((.sl (.sl (.pair I (.pair I .unit)))), 2)], D := ⟨16777184⟩ }),
  ([], 120, .loop 0, { lv := [⟨none, 5, 0⟩, ⟨none, 6, 0⟩], ps := [((.sl (.sl (.pair I (.pair I .unit)))), 2), (I, 0)], D := ⟨16777184⟩ })] []
theorem k_ref04_one (x : denP e_ref04_one.ps) : fnT Tryz.prog Hn.hints j_ref04_one (tabT []) 40 120 (ofPms e_ref04_one.ps x) e_ref04_one.rs = e_ref04_one.F x := by kernel_rfl
theorem o_ref04_one : EntryOk Tryz.prog Hn.hints Lb e_ref04_one := entry_ok tab_nil hJ 40 _ _ _ _ k_ref04_one
def drive_SureError (a0 : (List (List (Int × Int × Unit)))) : Option (Int × Int) :=
  (drive_InverseOf a0).bind fun x1 =>
  bif !(decide (x1.2 = 0)) then
    some (0, x1.2)
  else
    (drive_matrix_rowSum x1.1.2.1).bind fun x2 =>
    bif decide (w64 ((w64 (2 * (a0.length : Int))) * x2) = 0) then
      none
    else
      let v3 : Int := w64 ((w64 (x1.1.1 - 1)).tdiv (w64 ((w64 (2 * (a0.length : Int))) * x2)))
      some (v3, 0)
def e_drive_SureError : Entry := ⟨60, [.ty (.sl (.sl (.pair I (.pair I .unit))))], [(I, 0), (I, 0)], fun x => drive_SureError x⟩
def j_drive_SureError : TH := mkTH [] []
theorem k_drive_SureError (x : denP e_drive_SureError.ps) : fnT Tryz.prog Hn.hints j_drive_SureError (tabT [e_drive_InverseOf, e_drive_matrix_rowSum]) 40 60 (ofPms e_drive_SureError.ps x) e_drive_SureError.rs = e_drive_SureError.F x := by kernel_rfl
theorem o_drive_SureError : EntryOk Tryz.prog Hn.hints Lb e_drive_SureError := entry_ok (tab_cons o_drive_InverseOf (tab_cons o_drive_matrix_rowSum tab_nil)) hJ 40 _ _ _ _ k_drive_SureError
def ref04_CopyQuotient (a0 : (Int × (List (List (Int × Int × Unit))) × Unit)) : Option (Int × (List (List (Int × Int × Unit))) × Unit) :=
  (ref04_CopyMatrix a0.2.1).bind fun x1 =>
  some (a0.1, x1, ())
def e_ref04_CopyQuotient : Entry := ⟨54, [.ty (.pair I (.pair (.sl (.sl (.pair I (.pair I .unit)))) .unit))], [((.pair I (.pair (.sl (.sl (.pair I (.pair I .unit)))) .unit)), 2)], fun x => ref04_CopyQuotient x⟩
def j_ref04_CopyQuotient : TH := mkTH [] []
theorem k_ref04_CopyQuotient (x : denP e_ref04_CopyQuotient.ps) : fnT Tryz.prog Hn.hints j_ref04_CopyQuotient (tabT [e_ref04_CopyMatrix]) 40 54 (ofPms e_ref04_CopyQuotient.ps x) e_ref04_CopyQuotient.rs = e_ref04_CopyQuotient.F x := by kernel_rfl
theorem o_ref04_CopyQuotient : EntryOk Tryz.prog Hn.hints Lb e_ref04_CopyQuotient := entry_ok (tab_cons o_ref04_CopyMatrix tab_nil) hJ 40 _ _ _ _ k_ref04_CopyQuotient
def drive_quotientErr (a0 : (Int × (List (List (Int × Int × Unit))) × Unit)) (a1 : Int) : Option Int :=
  (drive_within a0.1 (1 : Int) (100000000000 : Int)).bind fun x1 =>
  (drive_unless x1 (2 : Int)).bind fun x2 =>
  (drive_unless (decide ((a0.2.1.length : Int) = a1)) (10 : Int)).bind fun x3 =>
  (drive_first ([x2, x3])).bind fun x4 =>
  (loopO (fun (s6 : (Int × Int)) =>
      bif decide (s6.2 < (a0.2.1.length : Int)) then
        (idx a0.2.1 s6.2).bind fun x7 =>
        (drive_unless (decide ((x7.length : Int) = a1)) (10 : Int)).bind fun x8 =>
        (drive_first ([s6.1, x8])).bind fun x9 =>
        some (.inl (x9, w64 (s6.2 + 1)))
      else
        some (.inr s6.1)) (x4, 0)).bind fun (p10 : Int) =>
  bif !(decide (p10 = 0)) then
    some p10
  else
    (loopO (fun (s12 : (Int × Int)) =>
        bif decide (s12.2 < (a0.2.1.length : Int)) then
          (idx a0.2.1 s12.2).bind fun x13 =>
          (loopO (fun (s15 : (Int × Int)) =>
              bif decide (s15.2 < (x13.length : Int)) then
                (idx x13 s15.2).bind fun x16 =>
                (drive_whole_isSized x16 (100000000000 : Int)).bind fun x17 =>
                bif !x17 then
                  some (.inr (.inr (.inr (.inr 2))))
                else
                  (drive_divisor ([s15.1, x16.1, x16.2.1])).bind fun x18 =>
                  some (.inl (x18, w64 (s15.2 + 1)))
              else
                some (.inr (.inl s15.1))) (s12.1, 0)).bind (Sum.elim (fun (p19 : Int) =>
          some (.inl (p19, w64 (s12.2 + 1)))) some)
        else
          some (.inr (.inl s12.1))) (a0.1, 0)).bind (Sum.elim (fun (p20 : Int) =>
    (drive_unless (decide (p20 = 1)) (3 : Int)).bind fun x21 =>
    some x21) some)
def e_drive_quotientErr : Entry := ⟨129, [.ty (.pair I (.pair (.sl (.sl (.pair I (.pair I .unit)))) .unit)), .ty I], [(I, 0)], fun x => drive_quotientErr x.1 x.2⟩
def j_drive_quotientErr : TH := mkTH [([], 129, .block 0, { lv := [⟨none, 5, 0⟩], ps := [(I, 0)], D := ⟨2198754821280⟩ }),
  ([], 129, .loop 0, { lv := [⟨none, 5, 0⟩, ⟨none, 28, 0⟩], ps := [(I, 0), (I, 0)], D := ⟨2198754821280⟩ }),
  ([], 129, .block 2, { lv := [⟨none, 8, 0⟩], ps := [(I, 0)], abn := true, D := ⟨2361182678484869191040⟩, wr := [⟨0, 12⟩] }),
  ([], 129, .loop 2, { lv := [⟨none, 8, 0⟩, ⟨none, 49, 0⟩], ps := [(I, 0), (I, 0)], D := ⟨2361182678484869191040⟩, wr := [⟨0, 12⟩] }),
  ([], 129, .block 4, { lv := [⟨none, 8, 0⟩], ps := [(I, 0)], abn := true, D := ⟨1180555591920392344960⟩, wr := [⟨0, 12⟩] }),
  ([], 129, .loop 4, { lv := [⟨none, 8, 0⟩, ⟨none, 55, 0⟩], ps := [(I, 0), (I, 0)], D := ⟨1180555591920392344960⟩, wr := [⟨0, 12⟩], rs := [⟨0, 12⟩], Dn := ⟨1134438731736118461824⟩ })] []
theorem k_drive_quotientErr (x : denP e_drive_quotientErr.ps) : fnT Tryz.prog Hn.hints j_drive_quotientErr (tabT [e_drive_divisor, e_drive_first, e_drive_unless, e_drive_whole_isSized, e_drive_within]) 40 129 (ofPms e_drive_quotientErr.ps x) e_drive_quotientErr.rs = e_drive_quotientErr.F x := by kernel_rfl
theorem o_drive_quotientErr : EntryOk Tryz.prog Hn.hints Lb e_drive_quotientErr := entry_ok (tab_cons o_drive_divisor (tab_cons o_drive_first (tab_cons o_drive_unless (tab_cons o_drive_whole_isSized (tab_cons o_drive_within tab_nil))))) hJ 40 _ _ _ _ k_drive_quotientErr
def slices_Equal_Lapi_Gauss_api_Gauss (a0 : (List (Int × Int × Unit))) (a1 : (List (Int × Int × Unit))) : Option Bool :=
  bif !(decide ((a0.length : Int) = (a1.length : Int))) then
    some false
  else
    (loopO (fun (s2 : Int) =>
        bif decide (s2 < (a0.length : Int)) then
          (idx a0 s2).bind fun x3 =>
          (idx a1 s2).bind fun x4 =>
          let v5 : Bool := !(bif decide (x3.1 = x4.1) then (bif decide (x3.2.1 = x4.2.1) then true else false) else false)
          bif v5 then
            some (.inr (.inr false))
          else
            some (.inl (w64 (s2 + 1)))
        else
          some (.inr (.inl ()))) 0).bind (Sum.elim (fun (p6 : Unit) =>
    some true) some)
def e_slices_Equal_Lapi_Gauss_api_Gauss : Entry := ⟨177, [.ty (.sl (.pair I (.pair I .unit))), .ty (.sl (.pair I (.pair I .unit)))], [(.bool, 0)], fun x => slices_Equal_Lapi_Gauss_api_Gauss x.1 x.2⟩
def j_slices_Equal_Lapi_Gauss_api_Gauss : TH := mkTH [([], 177, .block 0, { lv := [], ps := [], abn := true, D := ⟨67100704⟩ }),
  ([], 177, .loop 0, { lv := [⟨none, 13, 0⟩], ps := [(I, 0)], D := ⟨67100704⟩ })] []
theorem k_slices_Equal_Lapi_Gauss_api_Gauss (x : denP e_slices_Equal_Lapi_Gauss_api_Gauss.ps) : fnT Tryz.prog Hn.hints j_slices_Equal_Lapi_Gauss_api_Gauss (tabT []) 40 177 (ofPms e_slices_Equal_Lapi_Gauss_api_Gauss.ps x) e_slices_Equal_Lapi_Gauss_api_Gauss.rs = e_slices_Equal_Lapi_Gauss_api_Gauss.F x := by kernel_rfl
theorem o_slices_Equal_Lapi_Gauss_api_Gauss : EntryOk Tryz.prog Hn.hints Lb e_slices_Equal_Lapi_Gauss_api_Gauss := entry_ok tab_nil hJ 40 _ _ _ _ k_slices_Equal_Lapi_Gauss_api_Gauss
def drive_differs (a0 : (List (List (Int × Int × Unit)))) (a1 : (List (List (Int × Int × Unit)))) : Option (Int × Bool) :=
  (loopO (fun (s2 : Int) =>
      bif decide (s2 < (a0.length : Int)) then
        (idx a0 s2).bind fun x3 =>
        (idx a1 s2).bind fun x4 =>
        (slices_Equal_Lapi_Gauss_api_Gauss x3 x4).bind fun x5 =>
        bif !x5 then
          some (.inr (.inr (s2, true)))
        else
          some (.inl (w64 (s2 + 1)))
      else
        some (.inr (.inl ()))) 0).bind (Sum.elim (fun (p6 : Unit) =>
  some (0, false)) some)
def e_drive_differs : Entry := ⟨130, [.ty (.sl (.sl (.pair I (.pair I .unit)))), .ty (.sl (.sl (.pair I (.pair I .unit))))], [(I, 0), (.bool, 0)], fun x => drive_differs x.1 x.2⟩
def j_drive_differs : TH := mkTH [([], 130, .block 0, { lv := [], ps := [], abn := true, D := ⟨16776384⟩ }),
  ([], 130, .loop 0, { lv := [⟨none, 10, 0⟩], ps := [(I, 0)], D := ⟨16776384⟩ })] []
theorem k_drive_differs (x : denP e_drive_differs.ps) : fnT Tryz.prog Hn.hints j_drive_differs (tabT [e_slices_Equal_Lapi_Gauss_api_Gauss]) 40 130 (ofPms e_drive_differs.ps x) e_drive_differs.rs = e_drive_differs.F x := by kernel_rfl
theorem o_drive_differs : EntryOk Tryz.prog Hn.hints Lb e_drive_differs := entry_ok (tab_cons o_slices_Equal_Lapi_Gauss_api_Gauss tab_nil) hJ 40 _ _ _ _ k_drive_differs
def drive_CheckInverse (a0 : (List (List (Int × Int × Unit)))) (a1 : (Int × (List (List (Int × Int × Unit))) × Unit)) : Option (Int × Int) :=
  (drive_matrixErr a0).bind fun x1 =>
  bif !(decide (x1 = 0)) then
    some (0, x1)
  else
    (drive_quotientErr a1 (a0.length : Int)).bind fun x2 =>
    bif !(decide (x2 = 0)) then
      some (0, x2)
    else
      (drive_matrix_times a0 a1.2.1).bind fun x3 =>
      (drive_unit (a0.length : Int)).bind fun x4 =>
      (drive_matrix_scaled x4 a1.1).bind fun x5 =>
      (drive_differs x3 x5).bind fun x6 =>
      bif x6.2 then
        some (x6.1, 19)
      else
        some (0, 0)
def e_drive_CheckInverse : Entry := ⟨61, [.ty (.sl (.sl (.pair I (.pair I .unit)))), .ty (.pair I (.pair (.sl (.sl (.pair I (.pair I .unit)))) .unit))], [(I, 0), (I, 0)], fun x => drive_CheckInverse x.1 x.2⟩
def j_drive_CheckInverse : TH := mkTH [] []
theorem k_drive_CheckInverse (x : denP e_drive_CheckInverse.ps) : fnT Tryz.prog Hn.hints j_drive_CheckInverse (tabT [e_drive_differs, e_drive_matrixErr, e_drive_matrix_scaled, e_drive_matrix_times, e_drive_quotientErr, e_drive_unit]) 40 61 (ofPms e_drive_CheckInverse.ps x) e_drive_CheckInverse.rs = e_drive_CheckInverse.F x := by kernel_rfl
theorem o_drive_CheckInverse : EntryOk Tryz.prog Hn.hints Lb e_drive_CheckInverse := entry_ok (tab_cons o_drive_differs (tab_cons o_drive_matrixErr (tab_cons o_drive_matrix_scaled (tab_cons o_drive_matrix_times (tab_cons o_drive_quotientErr (tab_cons o_drive_unit tab_nil)))))) hJ 40 _ _ _ _ k_drive_CheckInverse
def ref04_QuotientErr (a0 : (Int × (List (List (Int × Int × Unit))) × Unit)) (a1 : Int) : Option Int :=
  (base_Within a0.1 (1 : Int) (100000000000 : Int)).bind fun x1 =>
  bif !x1 then
    some 2
  else
    bif !(decide ((a0.2.1.length : Int) = a1)) then
      some 10
    else
      (loopO (fun (s3 : Int) =>
          bif decide (s3 < a1) then
            (idx a0.2.1 s3).bind fun x4 =>
            bif !(decide ((x4.length : Int) = a1)) then
              some (.inr (.inr 10))
            else
              some (.inl (w64 (s3 + 1)))
          else
            some (.inr (.inl ()))) 0).bind (Sum.elim (fun (p5 : Unit) =>
      (loopO (fun (s7 : (Int × Int)) =>
          bif decide (s7.2 < a1) then
            (loopO (fun (s9 : (Int × Int)) =>
                bif decide (s9.2 < a1) then
                  (idx a0.2.1 s7.2).bind fun x10 =>
                  (idx x10 s9.2).bind fun x11 =>
                  (ref04_isSized x11 (100000000000 : Int)).bind fun x12 =>
                  bif !x12 then
                    some (.inr (.inr (.inr (.inr 2))))
                  else
                    (idx a0.2.1 s7.2).bind fun x13 =>
                    (idx x13 s9.2).bind fun x14 =>
                    (idx a0.2.1 s7.2).bind fun x15 =>
                    (idx x15 s9.2).bind fun x16 =>
                    (base_Gcd x14.1 x16.2.1).bind fun x17 =>
                    (base_Gcd s9.1 x17).bind fun x18 =>
                    some (.inl (x18, w64 (s9.2 + 1)))
                else
                  some (.inr (.inl s9.1))) (s7.1, 0)).bind (Sum.elim (fun (p19 : Int) =>
            some (.inl (p19, w64 (s7.2 + 1)))) some)
          else
            some (.inr (.inl s7.1))) (a0.1, 0)).bind (Sum.elim (fun (p20 : Int) =>
      bif !(decide (p20 = 1)) then
        some 3
      else
        some 0) some)) some)
def e_ref04_QuotientErr : Entry := ⟨131, [.ty (.pair I (.pair (.sl (.sl (.pair I (.pair I .unit)))) .unit)), .ty I], [(I, 0)], fun x => ref04_QuotientErr x.1 x.2⟩
def j_ref04_QuotientErr : TH := mkTH [([], 131, .block 0, { lv := [], ps := [], abn := true, D := ⟨2147221536⟩ }),
  ([], 131, .loop 0, { lv := [⟨none, 5, 0⟩], ps := [(I, 0)], D := ⟨2147221536⟩, rs := [⟨0, 2⟩], Dn := ⟨2138832928⟩ }),
  ([], 131, .block 2, { lv := [⟨none, 6, 0⟩], ps := [(I, 0)], abn := true, D := ⟨18889465931469990920640⟩ }),
  ([], 131, .loop 2, { lv := [⟨none, 6, 0⟩, ⟨none, 7, 0⟩], ps := [(I, 0), (I, 0)], D := ⟨18889465931469990920640⟩ }),
  ([], 131, .block 4, { lv := [⟨none, 6, 0⟩], ps := [(I, 0)], abn := true, D := ⟨18889465931203702948160⟩ }),
  ([], 131, .loop 4, { lv := [⟨none, 6, 0⟩, ⟨none, 8, 0⟩], ps := [(I, 0), (I, 0)], D := ⟨18889465931203702948160⟩, rs := [⟨0, 2⟩], Dn := ⟨18880224535972245668160⟩ })] []
theorem k_ref04_QuotientErr (x : denP e_ref04_QuotientErr.ps) : fnT Tryz.prog Hn.hints j_ref04_QuotientErr (tabT [e_base_Gcd, e_base_Within, e_ref04_isSized]) 40 131 (ofPms e_ref04_QuotientErr.ps x) e_ref04_QuotientErr.rs = e_ref04_QuotientErr.F x := by kernel_rfl
theorem o_ref04_QuotientErr : EntryOk Tryz.prog Hn.hints Lb e_ref04_QuotientErr := entry_ok (tab_cons o_base_Gcd (tab_cons o_base_Within (tab_cons o_ref04_isSized tab_nil))) hJ 40 _ _ _ _ k_ref04_QuotientErr
def ref04_differs (a0 : (List (List (Int × Int × Unit)))) (a1 : (List (List (Int × Int × Unit)))) : Option Int :=
  (loopO (fun (s2 : Int) =>
      bif decide (s2 < (a0.length : Int)) then
        (loopO (fun (s4 : Int) =>
            (idx a0 s2).bind fun x5 =>
            bif decide (s4 < (x5.length : Int)) then
              (idx a0 s2).bind fun x6 =>
              (idx x6 s4).bind fun x7 =>
              (idx a1 s2).bind fun x8 =>
              (idx x8 s4).bind fun x9 =>
              let v10 : Bool := !(bif decide (x7.1 = x9.1) then (bif decide (x7.2.1 = x9.2.1) then true else false) else false)
              bif v10 then
                some (.inr (.inr (.inr (.inr s2))))
              else
                some (.inl (w64 (s4 + 1)))
            else
              some (.inr (.inl ()))) 0).bind (Sum.elim (fun (p11 : Unit) =>
        some (.inl (w64 (s2 + 1)))) some)
      else
        some (.inr (.inl ()))) 0).bind (Sum.elim (fun (p12 : Unit) =>
  some (-1)) some)
def e_ref04_differs : Entry := ⟨132, [.ty (.sl (.sl (.pair I (.pair I .unit)))), .ty (.sl (.sl (.pair I (.pair I .unit))))], [(I, 0)], fun x => ref04_differs x.1 x.2⟩
def j_ref04_differs : TH := mkTH [([], 132, .block 0, { lv := [], ps := [], abn := true, D := ⟨274877906912⟩ }),
  ([], 132, .loop 0, { lv := [⟨none, 5, 0⟩], ps := [(I, 0)], D := ⟨274877906912⟩ }),
  ([], 132, .block 2, { lv := [], ps := [], abn := true, D := ⟨274877898816⟩ }),
  ([], 132, .loop 2, { lv := [⟨none, 6, 0⟩], ps := [(I, 0)], D := ⟨274877898816⟩ })] []
theorem k_ref04_differs (x : denP e_ref04_differs.ps) : fnT Tryz.prog Hn.hints j_ref04_differs (tabT []) 40 132 (ofPms e_ref04_differs.ps x) e_ref04_differs.rs = e_ref04_differs.F x := by kernel_rfl
theorem o_ref04_differs : EntryOk Tryz.prog Hn.hints Lb e_ref04_differs := entry_ok tab_nil hJ 40 _ _ _ _ k_ref04_differs
def ref04_CheckInverse (a0 : (List (List (Int × Int × Unit)))) (a1 : (Int × (List (List (Int × Int × Unit))) × Unit)) : Option (Int × Int) :=
  (ref04_MatrixErr a0).bind fun x1 =>
  bif !(decide (x1 = 0)) then
    some (0, x1)
  else
    (ref04_QuotientErr a1 (a0.length : Int)).bind fun x2 =>
    bif !(decide (x2 = 0)) then
      some (0, x2)
    else
      (ref04_Product a0 a1.2.1).bind fun x3 =>
      (ref04_one (a0.length : Int) a1.1).bind fun x4 =>
      (ref04_differs x3 x4).bind fun x5 =>
      bif decide (x5 ≥ 0) then
        some (x5, 19)
      else
        some (0, 0)
def e_ref04_CheckInverse : Entry := ⟨62, [.ty (.sl (.sl (.pair I (.pair I .unit)))), .ty (.pair I (.pair (.sl (.sl (.pair I (.pair I .unit)))) .unit))], [(I, 0), (I, 0)], fun x => ref04_CheckInverse x.1 x.2⟩
def j_ref04_CheckInverse : TH := mkTH [] []
theorem k_ref04_CheckInverse (x : denP e_ref04_CheckInverse.ps) : fnT Tryz.prog Hn.hints j_ref04_CheckInverse (tabT [e_ref04_MatrixErr, e_ref04_Product, e_ref04_QuotientErr, e_ref04_differs, e_ref04_one]) 40 62 (ofPms e_ref04_CheckInverse.ps x) e_ref04_CheckInverse.rs = e_ref04_CheckInverse.F x := by kernel_rfl
theorem o_ref04_CheckInverse : EntryOk Tryz.prog Hn.hints Lb e_ref04_CheckInverse := entry_ok (tab_cons o_ref04_MatrixErr (tab_cons o_ref04_Product (tab_cons o_ref04_QuotientErr (tab_cons o_ref04_differs (tab_cons o_ref04_one tab_nil))))) hJ 40 _ _ _ _ k_ref04_CheckInverse
def base_Gausses (a0 : (List (Int × Int × Unit))) (a1 : (List (Int × Int × Unit))) : Option Bool :=
  bif !(decide ((a0.length : Int) = (a1.length : Int))) then
    some false
  else
    (loopO (fun (s2 : Int) =>
        bif decide (s2 < (a0.length : Int)) then
          (idx a0 s2).bind fun x3 =>
          (idx a1 s2).bind fun x4 =>
          let v5 : Bool := !(bif decide (x3.1 = x4.1) then (bif decide (x3.2.1 = x4.2.1) then true else false) else false)
          bif v5 then
            some (.inr (.inr false))
          else
            some (.inl (w64 (s2 + 1)))
        else
          some (.inr (.inl ()))) 0).bind (Sum.elim (fun (p6 : Unit) =>
    some true) some)
def e_base_Gausses : Entry := ⟨35, [.ty (.sl (.pair I (.pair I .unit))), .ty (.sl (.pair I (.pair I .unit)))], [(.bool, 0)], fun x => base_Gausses x.1 x.2⟩
def j_base_Gausses : TH := mkTH [([], 35, .block 0, { lv := [], ps := [], abn := true, D := ⟨67106848⟩ }),
  ([], 35, .loop 0, { lv := [⟨none, 5, 0⟩], ps := [(I, 0)], D := ⟨67106848⟩ })] []
theorem k_base_Gausses (x : denP e_base_Gausses.ps) : fnT Tryz.prog Hn.hints j_base_Gausses (tabT []) 40 35 (ofPms e_base_Gausses.ps x) e_base_Gausses.rs = e_base_Gausses.F x := by kernel_rfl
theorem o_base_Gausses : EntryOk Tryz.prog Hn.hints Lb e_base_Gausses := entry_ok tab_nil hJ 40 _ _ _ _ k_base_Gausses
def ref04_SameMatrix (a0 : (List (List (Int × Int × Unit)))) (a1 : (List (List (Int × Int × Unit)))) : Option Bool :=
  bif !(decide ((a0.length : Int) = (a1.length : Int))) then
    some false
  else
    (loopO (fun (s2 : Int) =>
        bif decide (s2 < (a0.length : Int)) then
          (idx a0 s2).bind fun x3 =>
          (idx a1 s2).bind fun x4 =>
          (base_Gausses x3 x4).bind fun x5 =>
          bif !x5 then
            some (.inr (.inr false))
          else
            some (.inl (w64 (s2 + 1)))
        else
          some (.inr (.inl ()))) 0).bind (Sum.elim (fun (p6 : Unit) =>
    some true) some)
def e_ref04_SameMatrix : Entry := ⟨26, [.ty (.sl (.sl (.pair I (.pair I .unit)))), .ty (.sl (.sl (.pair I (.pair I .unit))))], [(.bool, 0)], fun x => ref04_SameMatrix x.1 x.2⟩
def j_ref04_SameMatrix : TH := mkTH [([], 26, .block 0, { lv := [], ps := [], abn := true, D := ⟨134215712⟩ }),
  ([], 26, .loop 0, { lv := [⟨none, 5, 0⟩], ps := [(I, 0)], D := ⟨134215712⟩ })] []
theorem k_ref04_SameMatrix (x : denP e_ref04_SameMatrix.ps) : fnT Tryz.prog Hn.hints j_ref04_SameMatrix (tabT [e_base_Gausses]) 40 26 (ofPms e_ref04_SameMatrix.ps x) e_ref04_SameMatrix.rs = e_ref04_SameMatrix.F x := by kernel_rfl
theorem o_ref04_SameMatrix : EntryOk Tryz.prog Hn.hints Lb e_ref04_SameMatrix := entry_ok (tab_cons o_base_Gausses tab_nil) hJ 40 _ _ _ _ k_ref04_SameMatrix
def ref04_SameQuotient (a0 : (Int × (List (List (Int × Int × Unit))) × Unit)) (a1 : (Int × (List (List (Int × Int × Unit))) × Unit)) : Option Bool :=
  (bif decide (a0.1 = a1.1) then
      (ref04_SameMatrix a0.2.1 a1.2.1).bind fun x1 =>
      some x1
    else
      some false).bind fun (p2 : Bool) =>
  some p2
def e_ref04_SameQuotient : Entry := ⟨57, [.ty (.pair I (.pair (.sl (.sl (.pair I (.pair I .unit)))) .unit)), .ty (.pair I (.pair (.sl (.sl (.pair I (.pair I .unit)))) .unit))], [(.bool, 0)], fun x => ref04_SameQuotient x.1 x.2⟩
def j_ref04_SameQuotient : TH := mkTH [([], 57, .region 1, { lv := [⟨none, 4, 0⟩], ps := [(.bool, 0)], D := ⟨131056⟩, rs := [⟨0, 2⟩, ⟨0, 3⟩], Dn := ⟨120656⟩ })] []
theorem k_ref04_SameQuotient (x : denP e_ref04_SameQuotient.ps) : fnT Tryz.prog Hn.hints j_ref04_SameQuotient (tabT [e_ref04_SameMatrix]) 40 57 (ofPms e_ref04_SameQuotient.ps x) e_ref04_SameQuotient.rs = e_ref04_SameQuotient.F x := by kernel_rfl
theorem o_ref04_SameQuotient : EntryOk Tryz.prog Hn.hints Lb e_ref04_SameQuotient := entry_ok (tab_cons o_ref04_SameMatrix tab_nil) hJ 40 _ _ _ _ k_ref04_SameQuotient
def drive_DeterminantOf (a0 : (List (List (Int × Int × Unit)))) : Option ((Int × Int × Unit) × Int) :=
  (drive_matrixErr a0).bind fun x1 =>
  bif !(decide (x1 = 0)) then
    some ((0, 0, ()), x1)
  else
    (drive_matrix_determinant a0).bind fun x2 =>
    some (x2, 0)
def e_drive_DeterminantOf : Entry := ⟨66, [.ty (.sl (.sl (.pair I (.pair I .unit))))], [((.pair I (.pair I .unit)), 0), (I, 0)], fun x => drive_DeterminantOf x⟩
def j_drive_DeterminantOf : TH := mkTH [] []
theorem k_drive_DeterminantOf (x : denP e_drive_DeterminantOf.ps) : fnT Tryz.prog Hn.hints j_drive_DeterminantOf (tabT [e_drive_matrixErr, e_drive_matrix_determinant]) 40 66 (ofPms e_drive_DeterminantOf.ps x) e_drive_DeterminantOf.rs = e_drive_DeterminantOf.F x := by kernel_rfl
theorem o_drive_DeterminantOf : EntryOk Tryz.prog Hn.hints Lb e_drive_DeterminantOf := entry_ok (tab_cons o_drive_matrixErr (tab_cons o_drive_matrix_determinant tab_nil)) hJ 40 _ _ _ _ k_drive_DeterminantOf
def law04_DriveSure (a0 : (List (List (Int × Int × Unit)))) (a1 : (Int × (List (List (Int × Int × Unit))) × Unit)) (a2 : (List Int)) : Option Bool :=
  (law04_awake).bind fun x1 =>
  bif !x1 then
    some false
  else
    ((law04_few a0).bind fun x2 =>
      bif !x2 then
        some true
      else
        (law04_few a1.2.1).bind fun x3 =>
        bif !x3 then
          some true
        else
          (ref04_MatrixErr a0).bind fun x4 =>
          bif !(decide (x4 = 0)) then
            some true
          else
            let v5 : Bool := !(decide ((a2.length : Int) = w64 ((w64 (2 * (a0.length : Int))) * (a0.length : Int))))
            some v5).bind fun (p6 : Bool) =>
    bif p6 then
      some true
    else
      (ref04_CopyMatrix a0).bind fun x7 =>
      (drive_DeterminantOf x7).bind fun x8 =>
      (ref04_CopyMatrix a0).bind fun x9 =>
      (drive_InverseOf x9).bind fun x10 =>
      (bif !(decide (x8.2 = 0)) then
          some true
        else
          let v11 : Bool := (bif decide (x8.1.1 = 0) then (bif decide (x8.1.2.1 = 0) then true else false) else false)
          some (!(v11 == decide (x10.2 = 11)))).bind fun (p12 : Bool) =>
      bif p12 then
        some false
      else
        bif !(decide (x10.2 = 0)) then
          some (decide (x10.2 = 11))
        else
          (ref04_CopyMatrix a0).bind fun x13 =>
          (ref04_CopyQuotient x10.1).bind fun x14 =>
          (drive_CheckInverse x13 x14).bind fun x15 =>
          (bif !(decide (x15.2 = 0)) then
              some true
            else
              some (!(decide (x15.1 = 0)))).bind fun (p16 : Bool) =>
          bif p16 then
            some false
          else
            (ref04_CheckInverse a0 x10.1).bind fun x17 =>
            bif !(decide (x17.2 = 0)) then
              some false
            else
              (ref04_CopyMatrix a0).bind fun x18 =>
              (ref04_CopyQuotient a1).bind fun x19 =>
              (drive_CheckInverse x18 x19).bind fun x20 =>
              (ref04_SameQuotient a1 x10.1).bind fun x21 =>
              bif !(decide (x20.2 = 0) == x21) then
                some false
              else
                (ref04_CopyMatrix a0).bind fun x22 =>
                (drive_SureError x22).bind fun x23 =>
                (bif !(decide (x23.2 = 0)) then
                    some true
                  else
                    (base_Within x23.1 (0 : Int) (1000 : Int)).bind fun x24 =>
                    some (!x24)).bind fun (p25 : Bool) =>
                bif p25 then
                  some false
                else
                  (ref04_CopyMatrix a0).bind fun x26 =>
                  (loopO (fun (s28 : ((List (List (Int × Int × Unit))) × Int × Int)) =>
                      bif decide (s28.2.2 < (a0.length : Int)) then
                        (loopO (fun (s30 : ((List (List (Int × Int × Unit))) × Int × Int)) =>
                            bif decide (s30.2.2 < (a0.length : Int)) then
                              (idx a2 s30.2.1).bind fun x31 =>
                              (base_Mod x31 (w64 ((w64 (2 * x23.1)) + 1))).bind fun x32 =>
                              (idx a2 (w64 (s30.2.1 + 1))).bind fun x33 =>
                              (base_Mod x33 (w64 ((w64 (2 * x23.1)) + 1))).bind fun x34 =>
                              (idx s30.1 s28.2.2).bind fun x35 =>
                              (idx s30.1 s28.2.2).bind fun x36 =>
                              (idx x36 s30.2.2).bind fun x37 =>
                              (base_GAdd x37 (w64 (x32 - x23.1), w64 (x34 - x23.1), ())).bind fun x38 =>
                              (idx x35 s30.2.2).bind fun x39 =>
                              (idx s30.1 s28.2.2).bind fun x40 =>
                              (idx x40 s30.2.2).bind fun x41 =>
                              let l42 : (List (Int × Int × Unit)) := List.set x40 s30.2.2.toNat x38
                              let l43 : (List (List (Int × Int × Unit))) := List.set s30.1 s28.2.2.toNat l42
                              some (.inl (l43, w64 (s30.2.1 + 2), w64 (s30.2.2 + 1)))
                            else
                              some (.inr (s30.1, s30.2.1))) (s28.1, s28.2.1, 0)).bind fun (p44 : ((List (List (Int × Int × Unit))) × Int)) =>
                        some (.inl (p44.1, p44.2, w64 (s28.2.2 + 1)))
                      else
                        some (.inr s28.1)) (x26, 0, 0)).bind fun (p45 : (List (List (Int × Int × Unit)))) =>
                  (ref04_MatrixErr p45).bind fun x46 =>
                  bif !(decide (x46 = 0)) then
                    (ref04_Determinant p45).bind fun x47 =>
                    let v48 : Bool := !(bif decide (x47.1 = 0) then (bif decide (x47.2.1 = 0) then true else false) else false)
                    some v48
                  else
                    (drive_DeterminantOf p45).bind fun x49 =>
                    (bif decide (x49.2 = 0) then
                        let v50 : Bool := !(bif decide (x49.1.1 = 0) then (bif decide (x49.1.2.1 = 0) then true else false) else false)
                        some v50
                      else
                        some false).bind fun (p51 : Bool) =>
                    some p51
def e_law04_DriveSure : Entry := ⟨11, [.ty (.sl (.sl (.pair I (.pair I .unit)))), .ty (.pair I (.pair (.sl (.sl (.pair I (.pair I .unit)))) .unit)), .ty (.sl I)], [(.bool, 0)], fun x => law04_DriveSure x.1 x.2.1 x.2.2⟩
def j_law04_DriveSure : TH := mkTH [([], 11, .region 3, { lv := [⟨none, 52, 0⟩], ps := [(.bool, 0)], D := ⟨9007198986305536⟩, rs := [⟨0, 4⟩], Dn := ⟨9007194691338240⟩ }),
  ([], 11, .region 7, { lv := [⟨none, 74, 0⟩], ps := [(.bool, 0)], D := ⟨37742038374809742606336⟩ }),
  ([], 11, .region 12, { lv := [⟨none, 92, 0⟩], ps := [(.bool, 0)], D := ⟨9748777809372369664830603264⟩ }),
  ([], 11, .region 21, { lv := [⟨none, 127, 0⟩], ps := [(.bool, 0)], D := ⟨337623910929368631717566993311207522304⟩ }),
  ([], 11, .block 0, { lv := [⟨none, 19, 0⟩], ps := [((.sl (.sl (.pair I (.pair I .unit)))), 2)], D := ⟨3064991081731777036323356754410356116189533094572195840⟩, wr := [⟨0, 9⟩, ⟨0, 23⟩] }),
  ([], 11, .loop 0, { lv := [⟨none, 19, 0⟩, ⟨none, 20, 0⟩, ⟨none, 21, 0⟩], ps := [((.sl (.sl (.pair I (.pair I .unit)))), 2), (I, 0), (I, 0)], D := ⟨3064991081731777036323356754410356116189533094572195840⟩, wr := [⟨0, 9⟩, ⟨0, 23⟩] }),
  ([], 11, .block 2, { lv := [⟨none, 19, 0⟩, ⟨none, 20, 0⟩], ps := [((.sl (.sl (.pair I (.pair I .unit)))), 2), (I, 0)], D := ⟨3064991081731690604430762294053971743337975711719227392⟩, wr := [⟨0, 9⟩, ⟨0, 23⟩] }),
  ([], 11, .loop 2, { lv := [⟨none, 19, 0⟩, ⟨none, 20, 0⟩, ⟨none, 22, 0⟩], ps := [((.sl (.sl (.pair I (.pair I .unit)))), 2), (I, 0), (I, 0)], D := ⟨3064991081731690604430762294053971743337975711719227392⟩, wr := [⟨0, 9⟩, ⟨0, 23⟩], rs := [⟨0, 23⟩], Dn := ⟨3064991081731690604430762294053971743337975711710838784⟩ }),
  ([], 11, .region 37, { lv := [⟨none, 6, 0⟩], ps := [(.bool, 0)], D := ⟨1594383840788216914014290513494747269689998282893864766275648⟩ })] []
theorem k_law04_DriveSure (x : denP e_law04_DriveSure.ps) : fnT Tryz.prog Hn.hints j_law04_DriveSure (tabT [e_base_GAdd, e_base_Mod, e_base_Within, e_drive_CheckInverse, e_drive_DeterminantOf, e_drive_InverseOf, e_drive_SureError, e_law04_awake, e_law04_few, e_ref04_CheckInverse, e_ref04_CopyMatrix, e_ref04_CopyQuotient, e_ref04_Determinant, e_ref04_MatrixErr, e_ref04_SameQuotient]) 40 11 (ofPms e_law04_DriveSure.ps x) e_law04_DriveSure.rs = e_law04_DriveSure.F x := by kernel_rfl
theorem o_law04_DriveSure : EntryOk Tryz.prog Hn.hints Lb e_law04_DriveSure := entry_ok (tab_cons o_base_GAdd (tab_cons o_base_Mod (tab_cons o_base_Within (tab_cons o_drive_CheckInverse (tab_cons o_drive_DeterminantOf (tab_cons o_drive_InverseOf (tab_cons o_drive_SureError (tab_cons o_law04_awake (tab_cons o_law04_few (tab_cons o_ref04_CheckInverse (tab_cons o_ref04_CopyMatrix (tab_cons o_ref04_CopyQuotient (tab_cons o_ref04_Determinant (tab_cons o_ref04_MatrixErr (tab_cons o_ref04_SameQuotient tab_nil))))))))))))))) hJ 40 _ _ _ _ k_law04_DriveSure
end
end Go.Proofs.YtbcdgfgacigaoaaGreat
end
section
set_option linter.unusedVariables false
set_option linter.unusedSimpArgs false
namespace Go.Proofs.YtbcdgfgacigaoaaGreat.Mat
open Go Go.Ab Go.Tx Go.Proofs.YtbcdgfgacigaoaaGreat
theorem wid {n : Int} (h1 : -9223372036854775808 ≤ n) (h2 : n ≤ 9223372036854775807) : w64 n = n := wrap_id h1 h2
theorem Within_ok (a b c : Int) : base_Within a b c = some (decide (b ≤ a ∧ a ≤ c)) := by
  unfold base_Within
  by_cases h : b ≤ a <;> simp [h]
theorem within_ok (a b c : Int) : drive_within a b c = some (decide (b ≤ a ∧ a ≤ c)) := by
  unfold drive_within
  by_cases h : b ≤ a <;> simp [h]
theorem isSized_ok (a k : Int) (h0 : 0 ≤ k) (h1 : k ≤ 4611686018427387904) : drive_isSized a k = some (decide (-k ≤ a ∧ a ≤ k)) := by
  unfold drive_isSized
  rw [within_ok, wid (by omega) (by omega)]
  simp
theorem unless_eq (b : Bool) (e : Int) : drive_unless b e = some (if b then 0 else e) := by cases b <;> rfl
theorem first_eq (l : List Int) (h : l.length ≤ 1000000000) : drive_first l = some (fst0 l) := by
  unfold drive_first
  rw [for_first l h]
instance (B : Int) (z : G) : Decidable (Bd B z) := inferInstanceAs (Decidable (_ ∧ _))
theorem whole_isSized_ok (z : G) (k : Int) (h0 : 0 ≤ k) (h1 : k ≤ 4611686018427387904) : drive_whole_isSized z k = some (decide (Bd k z)) := by
  unfold drive_whole_isSized
  rw [isSized_ok _ _ h0 h1, isSized_ok _ _ h0 h1]
  unfold Bd
  by_cases c : -k ≤ z.1 ∧ z.1 ≤ k <;> simp [c]
theorem refIsSized_ok (z : G) (k : Int) (h0 : 0 ≤ k) (h1 : k ≤ 4611686018427387904) : ref04_isSized z k = some (decide (Bd k z)) := by
  unfold ref04_isSized
  rw [wid (by omega) (by omega), Within_ok, Within_ok]
  unfold Bd
  have e : (0 : Int) - k = -k := by omega
  rw [e]
  by_cases c : -k ≤ z.1 ∧ z.1 ≤ k <;> simp [c]
def badZ (B : Int) (z : G) : Bool := !(decide (Bd B z))
def rowE (n : Nat) (i : Nat) (r : List G) : Option (Int × Int) := if r.length = n then (if r.any (badZ 20) then some ((i : Int), 2) else none) else some ((i : Int), 10)
def chkM (m : Mx) : Int × Int := if m.length = 0 then (0, 10) else if 3 < m.length then (0, 8) else (findI (rowE m.length) 0 m).getD (0, 0)
def matE (m : Mx) : Int := (chkM m).2
theorem contains_ok (r : List G) (h : r.length ≤ 1000000000) : slices_ContainsFunc_Lapi_Gauss_api_Gauss_of_drive_CheckMatrix_1 r = some (r.any (badZ 20)) := by
  unfold slices_ContainsFunc_Lapi_Gauss_api_Gauss_of_drive_CheckMatrix_1 slices_IndexFunc_Lapi_Gauss_api_Gauss_of_drive_CheckMatrix_1
  refine for_any r drive_CheckMatrix_1 (badZ 20) (fun x _ => ?_) h
  unfold drive_CheckMatrix_1
  rw [whole_isSized_ok _ _ (by omega) (by omega)]; rfl
theorem CheckMatrix_ok {m : Mx} (h : m.length ≤ 1000000000) (hr : ∀ r ∈ m, r.length ≤ 1000000000) : drive_CheckMatrix m = some (chkM m) := by
  unfold drive_CheckMatrix chkM
  simp only [unless_eq, Option.bind_some]
  rw [first_eq _ (by simp)]
  simp only [Option.bind_some]
  by_cases h0 : m.length = 0
  · have h0' : ¬ ((m.length : Int) > 0) := by omega
    simp [h0, fst0]
  · have h0' : (m.length : Int) > 0 := by omega
    by_cases h4 : 3 < m.length
    · have h4' : ¬ ((m.length : Int) ≤ 3) := by omega
      simp [h0, h0', h4, h4', fst0]
    · have h4' : (m.length : Int) ≤ 3 := by omega
      simp only [h0, h0', h4, h4', decide_true, if_true, if_false, fst0, Bool.not_true, cond_false]
      rw [for_find m _ (rowE m.length) (fun i r hi => ?_), elim_toSum]
      · cases findI (rowE m.length) 0 m <;> rfl
      · have hlt := len_lt hi
        rw [idx_of hi]
        simp only [Option.bind_some]
        rw [contains_ok r (hr r (List.mem_of_getElem? hi))]
        simp only [Option.bind_some]
        rw [first_eq _ (by simp), wid (by omega) (by omega)]
        simp only [Option.bind_some]
        unfold rowE
        by_cases c : r.length = m.length
        · have c' : (r.length : Int) = (m.length : Int) := by omega
          cases hb : r.any (badZ 20)
          · simp [c, c', hb, fst0, stp]
          · simp [c, c', hb, fst0, stp]
        · have c' : ¬ (r.length : Int) = (m.length : Int) := by omega
          simp [c, c', fst0, stp]
theorem refCheckMatrix_ok {m : Mx} (h : m.length ≤ 1000000000) (hr : ∀ r ∈ m, r.length ≤ 1000000000) : ref04_CheckMatrix m = some (chkM m) := by
  unfold ref04_CheckMatrix chkM
  by_cases h0 : m.length = 0
  · simp [h0]
  have h0' : ¬ ((m.length : Int) = 0) := by omega
  by_cases h4 : 3 < m.length
  · have h4' : (m.length : Int) > 3 := by omega
    simp [h0, h0', h4, h4']
  have h4' : ¬ ((m.length : Int) > 3) := by omega
  simp only [h0, h0', h4, h4', decide_false, cond_false, if_false]
  rw [for_find m _ (rowE m.length) (fun i r hi => ?_), elim_toSum]
  · cases findI (rowE m.length) 0 m <;> rfl
  · have hlt := len_lt hi
    have hrl := hr r (List.mem_of_getElem? hi)
    rw [idx_of hi]
    simp only [Option.bind_some]
    unfold rowE
    by_cases c : r.length = m.length
    case neg =>
      have c' : ¬ (r.length : Int) = (m.length : Int) := by omega
      simp [c, c', stp]
    have c' : decide ((r.length : Int) = (m.length : Int)) = true := decide_eq_true (by omega)
    simp only [c', Bool.not_true, cond_false]
    rw [if_pos c]
    rw [for_find r _ (fun _ z => if badZ 20 z then some (Sum.inr (Sum.inr ((i : Int), (2 : Int))) : Int ⊕ (Unit ⊕ (Int × Int))) else none) (fun k z hk => ?_), elim_toSum]
    · cases hf : findI (fun _ z => if badZ 20 z then some (Sum.inr (Sum.inr ((i : Int), (2 : Int))) : Int ⊕ (Unit ⊕ (Int × Int))) else none) 0 r with
      | none =>
        rw [findI_none] at hf
        have hb : r.any (badZ 20) = false := by
          rw [List.any_eq_false]
          intro x hx
          obtain ⟨k, hk⟩ := List.mem_iff_getElem?.1 hx
          have := hf k x hk
          simpa using this
        simp only [hb, Bool.false_eq_true, if_false, stp]
        rw [wid (by omega) (by omega)]
      | some q =>
        obtain ⟨k, z, h1, h2, _⟩ := findI_some hf
        have hp : badZ 20 z = true := by
          cases hp : badZ 20 z
          · simp [hp] at h2
          · rfl
        have hb : r.any (badZ 20) = true := List.any_eq_true.2 ⟨z, List.mem_of_getElem? h1, hp⟩
        simp only [hp, if_true, Option.some.injEq] at h2
        simp only [hb, if_true, stp, ← h2]
    · have hlk := len_lt hk
      simp only [Option.bind_some, idx_of hk]
      rw [refIsSized_ok _ _ (by omega) (by omega)]
      simp only [Option.bind_some]
      rw [wid (by omega) (by omega)]
      unfold badZ
      by_cases d : Bd 20 z <;> simp [d, stp]
theorem matrixErr_ok {m : Mx} (h : m.length ≤ 1000000000) (hr : ∀ r ∈ m, r.length ≤ 1000000000) : drive_matrixErr m = some (matE m) := by
  unfold drive_matrixErr; rw [CheckMatrix_ok h hr]; rfl
theorem MatrixErr_ok {m : Mx} (h : m.length ≤ 1000000000) (hr : ∀ r ∈ m, r.length ≤ 1000000000) : ref04_MatrixErr m = some (matE m) := by
  unfold ref04_MatrixErr; rw [refCheckMatrix_ok h hr]; rfl
theorem mat_ok {m : Mx} (h : matE m = 0) : 1 ≤ m.length ∧ m.length ≤ 3 ∧ Rect m.length m.length m ∧ BdM 20 m := by
  unfold matE chkM at h
  split at h
  · cases h
  · rename_i h1
    split at h
    · cases h
    · rename_i h2
      have hn : findI (rowE m.length) 0 m = none := by
        cases hf : findI (rowE m.length) 0 m with
        | none => rfl
        | some r =>
          exfalso
          rw [hf] at h
          obtain ⟨i, a, _, h3, _⟩ := findI_some hf
          unfold rowE at h3
          split at h3
          · split at h3
            · cases h3; cases h
            · cases h3
          · cases h3; cases h
      rw [findI_none] at hn
      have key : ∀ r ∈ m, r.length = m.length ∧ r.any (badZ 20) = false := fun r hr => by
        obtain ⟨i, hi⟩ := List.mem_iff_getElem?.1 hr
        have := hn i r hi
        unfold rowE at this
        split at this
        · rename_i c
          split at this
          · cases this
          · rename_i d; exact ⟨c, by simpa using d⟩
        · cases this
      refine ⟨by omega, by omega, ⟨rfl, fun r hr => (key r hr).1⟩, fun r hr z hz => ?_⟩
      have := List.any_eq_false.1 (key r hr).2 z hz
      unfold badZ at this
      simpa using this
theorem at_ok {n c i k : Nat} (f : Nat → Nat → G) (hi : i < n) (hk : k < c) : drive_matrix_at (mx n c f) (i : Int) (k : Int) = some (f i k) := by
  unfold drive_matrix_at
  rw [idx_of (mx_at f hi), Option.bind_some, idx_of (mkL_get (fun k => f i k) hk)]; rfl
theorem times_ok' {A B : Int} {a b : G} (h : Bd A a) (h' : Bd B b) (hb : 2 * (A * B) ≤ 9000000000000000000) : drive_whole_times a b = some (gmul a b) := congrArg some (mul_w h h' hb)
theorem plus_ok {A B : Int} {a b : G} (h : Bd A a) (h' : Bd B b) (hb : A + B ≤ 9000000000000000000) : drive_whole_plus a b = some (gadd a b) := congrArg some (add_w h h' hb)
theorem GMul_ok {A B : Int} {a b : G} (h : Bd A a) (h' : Bd B b) (hb : 2 * (A * B) ≤ 9000000000000000000) : base_GMul a b = some (gmul a b) := congrArg some (mul_w h h' hb)
theorem GAdd_ok {A B : Int} {a b : G} (h : Bd A a) (h' : Bd B b) (hb : A + B ≤ 9000000000000000000) : base_GAdd a b = some (gadd a b) := congrArg some (add_w h h' hb)
theorem le_next {i n : Nat} {A : Int} (hA : 0 ≤ A) (h : i < n) (hb : (n : Int) * A ≤ 9000000000000000000) : (i : Int) * A + A ≤ 9000000000000000000 := by
  have : ((i + 1 : Nat) : Int) * A ≤ (n : Int) * A := Int.mul_le_mul_of_nonneg_right (by omega) hA
  have e : ((i + 1 : Nat) : Int) * A = (i : Int) * A + A := by rw [Int.natCast_add, Int.add_mul]; simp
  omega
theorem times1_ok {a b c i k : Nat} {A B : Int} {f h : Nat → Nat → G} (hA : 0 ≤ A) (hB : 0 ≤ B) (hf : BdF A a b f) (hh : BdF B b c h) (hb : b ≤ 1000) (hbd : (b : Int) * (2 * (A * B)) ≤ 9000000000000000000) (hb1 : 2 * (A * B) ≤ 9000000000000000000) (hi : i < a) (hk : k < c) :
    drive_matrix_times_1 (i : Int) (k : Int) (mx b c h) (mx a b f) = some (prodF b f h i k) := by
  unfold drive_matrix_times_1
  rw [mx_len]
  have h0 : 0 ≤ 2 * (A * B) := by have := Int.mul_nonneg hA hB; omega
  rw [sum_loop b hb h0 hbd (fun j => gmul (f i j) (h j k)) (fun j hj => (hf i j hi hj).mul (hh j k hj hk)) (fun j hj x y hxy => ?_) (fun x y => ?_)]
  · rfl
  · have e0 : decide ((j : Int) < (b : Int)) = true := decide_eq_true (by omega)
    simp only [e0, cond_true]
    rw [at_ok f hi hj, at_ok h hj hk]
    simp only [Option.bind_some]
    rw [times_ok' (hf i j hi hj) (hh j k hj hk) hb1]
    simp only [Option.bind_some]
    rw [plus_ok hxy ((hf i j hi hj).mul (hh j k hj hk)) (le_next h0 hj hbd)]
    rfl
  · have e0 : decide ((b : Int) < (b : Int)) = false := by simp
    simp only [e0, cond_false]
theorem times_ok {a b c : Nat} {A B : Int} {f h : Nat → Nat → G} (hA : 0 ≤ A) (hB : 0 ≤ B) (hf : BdF A a b f) (hh : BdF B b c h) (ha : a ≤ 1000) (hb : b ≤ 1000) (hb1 : 1 ≤ b) (hc : c ≤ 1000) (hbd : (b : Int) * (2 * (A * B)) ≤ 9000000000000000000) :
    drive_matrix_times (mx a b f) (mx b c h) = some (mx a c (prodF b f h)) := by
  unfold drive_matrix_times drive_made_of_drive_matrix_times_1
  rw [idx_zero, mx_at h (by omega), Option.bind_some, mkL_len, mx_len]
  have h0 : 0 ≤ 2 * (A * B) := by have := Int.mul_nonneg hA hB; omega
  have h1 : 2 * (A * B) ≤ 9000000000000000000 := by
    have := Int.mul_le_mul_of_nonneg_right (show (1 : Int) ≤ b by omega) h0
    omega
  have := made_loop a c ha hc (fun i k => drive_matrix_times_1 i k (mx b c h) (mx a b f)) (prodF b f h) (fun i k hi hk => times1_ok hA hB hf hh hb hbd h1 hi hk)
  show Option.bind _ _ = _
  rw [this]; rfl
theorem Product_ok {a b c : Nat} {A B : Int} {f h : Nat → Nat → G} (hA : 0 ≤ A) (hB : 0 ≤ B) (hf : BdF A a b f) (hh : BdF B b c h) (ha : a ≤ 1000) (hb : b ≤ 1000) (hb1 : 1 ≤ b) (hc : c ≤ 1000) (hbd : (b : Int) * (2 * (A * B)) ≤ 9000000000000000000) :
    ref04_Product (mx a b f) (mx b c h) = some (mx a c (prodF b f h)) := by
  unfold ref04_Product
  rw [mx_len, mx_len]
  have h0 : 0 ≤ 2 * (A * B) := by have := Int.mul_nonneg hA hB; omega
  have h1 : 2 * (A * B) ≤ 9000000000000000000 := by
    have := Int.mul_le_mul_of_nonneg_right (show (1 : Int) ≤ b by omega) h0
    omega
  rw [for_mk a (fun i => mkL c fun k => prodF b f h i k) (fun i hi => ?_) ?_]
  · rfl
  · have e0 : decide ((a : Int) < (a : Int)) = false := by simp
    simp only [e0, cond_false]
  · have e0 : decide ((i : Int) < (a : Int)) = true := decide_eq_true (by omega)
    simp only [e0, cond_true]
    rw [for_mk c (fun k => prodF b f h i k) (fun k hk => ?_) ?_]
    · simp only [Option.bind_some]
      rw [app_one (by rw [mkL_len]; omega)]
      simp only [Option.bind_some]
      rw [wid (by omega) (by omega)]
    · have e1 : decide ((c : Int) < (c : Int)) = false := by simp
      rw [idx_zero, mx_at h (by omega)]
      simp only [Option.bind_some, mkL_len, e1, cond_false]
    · have e1 : decide ((k : Int) < (c : Int)) = true := decide_eq_true (by omega)
      rw [idx_zero, mx_at h (by omega)]
      simp only [Option.bind_some, mkL_len, e1, cond_true]
      rw [sum_loop b hb h0 hbd (fun j => gmul (f i j) (h j k)) (fun j hj => (hf i j hi hj).mul (hh j k hj hk)) (fun j hj x y hxy => ?_) (fun x y => ?_)]
      · simp only [Option.bind_some]
        rw [app_one (by rw [mkL_len]; omega)]
        simp only [Option.bind_some]
        rw [wid (by omega) (by omega)]
        rfl
      · have e0 : decide ((j : Int) < (b : Int)) = true := decide_eq_true (by omega)
        simp only [e0, cond_true]
        rw [idx_of (mx_at f hi), Option.bind_some, idx_of (mkL_get (fun k => f i k) hj), Option.bind_some, idx_of (mx_at h hj), Option.bind_some, idx_of (mkL_get (fun k => h j k) hk), Option.bind_some]
        rw [GMul_ok (hf i j hi hj) (hh j k hj hk) h1]
        simp only [Option.bind_some]
        rw [GAdd_ok hxy ((hf i j hi hj).mul (hh j k hj hk)) (le_next h0 hj hbd)]
        rfl
      · have e0 : decide ((b : Int) < (b : Int)) = false := by simp
        simp only [e0, cond_false]
theorem without_ok {n c : Nat} (hn : n ≤ 1000) (f : Nat → Nat → G) (hc : c < n + 1) : drive_matrix_without (mx (n + 1) (n + 1) f) 0 (c : Int) = some (mx n n (minor f 0 c)) := by
  unfold drive_matrix_without
  rw [mx_len]
  refine Ok.eq ?_
  rw [ok_bind]
  refine (loop_up (n + 1) (fun i (s : Mx × Int) => s = (mkL (i - 1) (fun j => mkL n fun k => minor f 0 c j k), (i : Int))) (fun r => r = mx n n (minor f 0 c)) rfl ?_).mono (fun a ha => by rw [ha]; exact ok_some.2 rfl)
  rintro i s hi rfl
  by_cases hlt : i < n + 1
  · have e0 : decide ((i : Int) < ((n + 1 : Nat) : Int)) = true := decide_eq_true (by omega)
    simp only [e0, cond_true]
    rw [idx_of (mx_at f hlt)]
    simp only [Option.bind_some]
    by_cases hz : i = 0
    · subst hz
      simp only [Int.ofNat_eq_natCast, Int.natCast_zero, decide_true, Bool.not_true, cond_false, Option.bind_some]
      rw [wid (by omega) (by omega), rnd_inl]
      exact ⟨by omega, rfl⟩
    · have e1 : decide ((i : Int) = 0) = false := decide_eq_false (by omega)
      simp only [e1, Bool.not_false, cond_true]
      rw [slc_in (by rw [mkL_len]; omega)]
      simp only [Option.bind_some, decide_true, cond_true]
      rw [wid (n := (c : Int) + 1) (by omega) (by omega), slc_in (by rw [mkL_len]; omega)]
      simp only [Option.bind_some, mkL_len]
      have e2 : ((c : Int) + 1).toNat = c + 1 := by omega
      have e3 : ((n + 1 : Nat) : Int).toNat = n + 1 := by omega
      have e4 : (0 : Int).toNat = 0 := rfl
      rw [e2, e3, e4, Int.toNat_natCast, app_in (by simp [mkL_len]; omega)]
      simp only [Option.bind_some]
      rw [mkL_cut (fun k => f i k) hc, app_one (by rw [mkL_len]; omega)]
      simp only [Option.bind_some]
      rw [wid (by omega) (by omega), rnd_inl]
      refine ⟨hlt, ?_⟩
      have e5 : i + 1 - 1 = (i - 1) + 1 := by omega
      rw [e5, mkL_succ]
      congr 1
      congr 2
      refine mkL_congr fun k hk => ?_
      unfold minor
      congr 1
      all_goals (unfold skip; rw [if_neg (by omega)]; omega)
  · have : i = n + 1 := by omega
    subst this
    have e0 : decide (((n + 1 : Nat) : Int) < ((n + 1 : Nat) : Int)) = false := by simp
    simp only [e0, cond_false]
    rw [rnd_inr]
    rfl
theorem refWithout_ok {n c : Nat} (hn : n ≤ 1000) (f : Nat → Nat → G) (hc : c < n + 1) : ref04_without (mx (n + 1) (n + 1) f) 0 (c : Int) = some (mx n n (minor f 0 c)) := by
  unfold ref04_without
  rw [mx_len]
  refine Ok.eq ?_
  rw [ok_bind]
  refine (loop_up (n + 1) (fun i (s : Mx × Int) => s = (mkL (i - 1) (fun j => mkL n fun k => minor f 0 c j k), (i : Int))) (fun r => r = mx n n (minor f 0 c)) rfl ?_).mono (fun a ha => by rw [ha]; exact ok_some.2 rfl)
  rintro i s hi rfl
  by_cases hlt : i < n + 1
  · have e0 : decide ((i : Int) < ((n + 1 : Nat) : Int)) = true := decide_eq_true (by omega)
    simp only [e0, cond_true]
    by_cases hz : i = 0
    · subst hz
      simp only [Int.ofNat_eq_natCast, Int.natCast_zero, decide_true, cond_true, Option.bind_some]
      rw [wid (by omega) (by omega), rnd_inl]
      exact ⟨by omega, rfl⟩
    · have e1 : decide ((i : Int) = 0) = false := decide_eq_false (by omega)
      simp only [e1, cond_false]
      rw [rnd_bind, ok_bind]
      refine (loop_up (n + 1) (fun k (s : List G × Int) => s = (mkL (if k ≤ c then k else k - 1) (fun k => f i (skip c k)), (k : Int))) (fun r => r = mkL n fun k => f i (skip c k)) ?_ ?_).mono ?_
      · simp [mkL_zero]
      · rintro k s hk rfl
        by_cases hlt2 : k < n + 1
        · have e2 : decide ((k : Int) < ((n + 1 : Nat) : Int)) = true := decide_eq_true (by omega)
          simp only [e2, cond_true]
          by_cases hkc : k = c
          · subst hkc
            simp only [decide_true, Bool.not_true, cond_false, Option.bind_some]
            rw [wid (by omega) (by omega), rnd_inl]
            refine ⟨hlt2, ?_⟩
            rw [if_pos (by omega), if_neg (by omega)]
            rfl
          · have e3 : decide ((k : Int) = (c : Int)) = false := decide_eq_false (by omega)
            simp only [e3, Bool.not_false, cond_true]
            rw [idx_of (mx_at f hlt)]
            simp only [Option.bind_some]
            rw [idx_of (mkL_get (fun k => f i k) hlt2)]
            simp only [Option.bind_some]
            rw [app_one (by rw [mkL_len]; split <;> omega)]
            simp only [Option.bind_some]
            rw [wid (by omega) (by omega), rnd_inl]
            refine ⟨hlt2, ?_⟩
            congr 1
            by_cases hkl : k < c
            · rw [if_pos (by omega), if_pos (by omega), mkL_succ]
              congr 3
              unfold skip; rw [if_pos hkl]
            · rw [if_neg (by omega), if_neg (by omega)]
              have e5 : k + 1 - 1 = (k - 1) + 1 := by omega
              rw [e5, mkL_succ]
              congr 3
              unfold skip; rw [if_neg (by omega)]; omega
        · have : k = n + 1 := by omega
          subst this
          have e2 : decide (((n + 1 : Nat) : Int) < ((n + 1 : Nat) : Int)) = false := by simp
          simp only [e2, cond_false]
          rw [rnd_inr, if_neg (by omega)]
          rfl
      · rintro r rfl
        rw [app_one (by rw [mkL_len]; omega)]
        simp only [Option.bind_some]
        rw [ok_some, wid (by omega) (by omega), rnd_inl]
        refine ⟨hlt, ?_⟩
        have e5 : i + 1 - 1 = (i - 1) + 1 := by omega
        rw [e5, mkL_succ]
        congr 1
        congr 2
        refine mkL_congr fun k hk => ?_
        unfold minor
        congr 1
        all_goals (unfold skip; rw [if_neg (by omega)]; omega)
  · have : i = n + 1 := by omega
    subst this
    have e0 : decide (((n + 1 : Nat) : Int) < ((n + 1 : Nat) : Int)) = false := by simp
    simp only [e0, cond_false]
    rw [rnd_inr]
    rfl
theorem dB_mono {B : Int} (hB : 1 ≤ B) (n : Nat) : dB B n ≤ dB B (n + 1) := by
  have e : dB B (n + 1) = ((n + 1 : Nat) : Int) * (2 * (B * dB B n)) := rfl
  rw [e]
  have h0 := dB_nonneg (show 0 ≤ B by omega) n
  have h1 : dB B n ≤ B * dB B n := by
    have := Int.mul_le_mul_of_nonneg_right hB h0; omega
  have h2 : (1 : Int) * (2 * (B * dB B n)) ≤ ((n + 1 : Nat) : Int) * (2 * (B * dB B n)) := Int.mul_le_mul_of_nonneg_right (by omega) (by omega)
  omega
theorem det_ok {B : Int} (hB : 1 ≤ B) : ∀ (k n : Nat) (f : Nat → Nat → G), n ≤ 100 → n < k → BdF B n n f → dB B n ≤ 9000000000000000000 → drive_matrix_determinant_n k (mx n n f) = some (detF n f)
  | 0, n, f, _, h, _, _ => by omega
  | k + 1, 0, f, _, _, _, _ => rfl
  | k + 1, n + 1, f, hn, hk, hf, hb => by
    have hB0 : 0 ≤ B := by omega
    have hD0 := dB_nonneg hB0 n
    have h0 : 0 ≤ 2 * (B * dB B n) := by have := Int.mul_nonneg hB0 hD0; omega
    have hDn : dB B n ≤ 9000000000000000000 := by have := dB_mono hB n; omega
    have hb1 : 2 * (B * dB B n) ≤ 9000000000000000000 := by
      have h9 : (1 : Int) * (2 * (B * dB B n)) ≤ ((n + 1 : Nat) : Int) * (2 * (B * dB B n)) := Int.mul_le_mul_of_nonneg_right (by omega) h0
      simp only [dB] at hb
      omega
    have hunf : drive_matrix_determinant_n (k + 1) (mx (n + 1) (n + 1) f) = (bif decide (((mx (n + 1) (n + 1) f).length : Int) = 0) then some (1, 0, ()) else
      (loopO (fun (s2 : (Int × Int × Int)) =>
        bif decide (s2.1 < ((mx (n + 1) (n + 1) f).length : Int)) then
          (drive_matrix_at (mx (n + 1) (n + 1) f) (0 : Int) s2.1).bind fun x3 =>
          (drive_matrix_without (mx (n + 1) (n + 1) f) (0 : Int) s2.1).bind fun x4 =>
          (drive_matrix_determinant_n k x4).bind fun x5 =>
          (drive_whole_times x3 x5).bind fun x6 =>
          (bif decide (s2.1.tmod 2 = 1) then
              (drive_whole_minus (0, 0, ()) x6).bind fun x7 =>
              some (x7.1, x7.2.1)
            else
              some (x6.1, x6.2.1)).bind fun (p8 : (Int × Int)) =>
          (drive_whole_plus (s2.2.1, s2.2.2, ()) (p8.1, p8.2, ())).bind fun x9 =>
          some (.inl (w64 (s2.1 + 1), x9.1, x9.2.1))
        else
          some (.inr (s2.2.1, s2.2.2))) (0, 0, 0)).bind fun (p10 : (Int × Int)) =>
      some (p10.1, p10.2, ())) := rfl
    rw [hunf, mx_len]
    have e0 : decide (((n + 1 : Nat) : Int) = 0) = false := decide_eq_false (by omega)
    rw [e0, cond_false]
    have htb : ∀ j, j < n + 1 → Bd (2 * (B * dB B n)) (gmul (f 0 j) (detF n (minor f 0 j))) := fun j hj => (hf 0 j (by omega) hj).mul (detF_bd hB0 n _ (minor_bd hf))
    rw [sum_loop (n + 1) (by omega) h0 hb (fun j => if j % 2 = 1 then gneg (gmul (f 0 j) (detF n (minor f 0 j))) else gmul (f 0 j) (detF n (minor f 0 j)))
      (fun j hj => by split; · exact (htb j hj).neg
                      · exact htb j hj) (fun j hj x y hxy => ?_) (fun x y => ?_)]
    · rfl
    · have e1 : decide ((j : Int) < ((n + 1 : Nat) : Int)) = true := decide_eq_true (by omega)
      simp only [e1, cond_true]
      have hat := at_ok (n := n + 1) (c := n + 1) f (i := 0) (k := j) (by omega) hj
      simp only [Int.natCast_zero] at hat
      rw [hat]
      simp only [Option.bind_some]
      rw [without_ok (by omega) f hj]
      simp only [Option.bind_some]
      rw [det_ok hB k n _ (by omega) (by omega) (minor_bd hf) hDn]
      simp only [Option.bind_some]
      rw [times_ok' (hf 0 j (by omega) hj) (detF_bd hB0 n _ (minor_bd (r := 0) (c := j) hf)) hb1]
      simp only [Option.bind_some]
      have htm : (j : Int).tmod 2 = ((j % 2 : Nat) : Int) := by rw [Int.tmod_eq_emod_of_nonneg (by omega)]; omega
      rw [htm]
      by_cases hp : j % 2 = 1
      · have e2 : decide (((j % 2 : Nat) : Int) = 1) = true := decide_eq_true (by omega)
        rw [e2, cond_true, if_pos hp]
        have hm : drive_whole_minus (0, 0, ()) (gmul (f 0 j) (detF n (minor f 0 j))) = some (gneg (gmul (f 0 j) (detF n (minor f 0 j)))) := by
          have := sub_w (a := g0) (bd_zero (B := 0) (by omega)) (htb j hj) (by omega)
          rw [gzero_sub] at this
          exact congrArg some this
        rw [hm]
        simp only [Option.bind_some, geta]
        rw [plus_ok hxy (htb j hj).neg (le_next h0 hj hb)]
        rfl
      · have e2 : decide (((j % 2 : Nat) : Int) = 1) = false := decide_eq_false (by omega)
        rw [e2, cond_false, if_neg hp]
        simp only [Option.bind_some, geta]
        rw [plus_ok hxy (htb j hj) (le_next h0 hj hb)]
        rfl
    · have e1 : decide (((n + 1 : Nat) : Int) < ((n + 1 : Nat) : Int)) = false := by simp
      simp only [e1, cond_false]
theorem Mod2_ok (n : Nat) (h : n ≤ 1000000000) : base_Mod (n : Int) 2 = some ((n % 2 : Nat) : Int) := by
  unfold base_Mod
  have e : ((n : Int).tmod 2) = ((n % 2 : Nat) : Int) := by rw [Int.tmod_eq_emod_of_nonneg (by omega)]; omega
  rw [e]
  have e1 : decide ((2 : Int) = 0) = false := by decide
  have e2 : decide (((n % 2 : Nat) : Int) < 0) = false := decide_eq_false (by omega)
  simp only [e1, e2, cond_false, Option.bind_some]
theorem refDet_ok {B : Int} (hB : 1 ≤ B) : ∀ (k n : Nat) (f : Nat → Nat → G), n ≤ 100 → n < k → BdF B n n f → dB B n ≤ 9000000000000000000 → ref04_Determinant_n k (mx n n f) = some (detF n f)
  | 0, n, f, _, h, _, _ => by omega
  | k + 1, 0, f, _, _, _, _ => rfl
  | k + 1, n + 1, f, hn, hk, hf, hb => by
    have hB0 : 0 ≤ B := by omega
    have hD0 := dB_nonneg hB0 n
    have h0 : 0 ≤ 2 * (B * dB B n) := by have := Int.mul_nonneg hB0 hD0; omega
    have hDn : dB B n ≤ 9000000000000000000 := by have := dB_mono hB n; omega
    have hb1 : 2 * (B * dB B n) ≤ 9000000000000000000 := by
      have h9 : (1 : Int) * (2 * (B * dB B n)) ≤ ((n + 1 : Nat) : Int) * (2 * (B * dB B n)) := Int.mul_le_mul_of_nonneg_right (by omega) h0
      simp only [dB] at hb
      omega
    have hunf : ref04_Determinant_n (k + 1) (mx (n + 1) (n + 1) f) = (bif decide (((mx (n + 1) (n + 1) f).length : Int) = 0) then some (1, 0, ()) else
      (loopO (fun (s2 : (Int × Int × Int)) =>
        bif decide (s2.1 < ((mx (n + 1) (n + 1) f).length : Int)) then
          (idx (mx (n + 1) (n + 1) f) 0).bind fun x3 =>
          (idx x3 s2.1).bind fun x4 =>
          (ref04_without (mx (n + 1) (n + 1) f) (0 : Int) s2.1).bind fun x5 =>
          (ref04_Determinant_n k x5).bind fun x6 =>
          (base_GMul x4 x6).bind fun x7 =>
          (base_Mod s2.1 (2 : Int)).bind fun x8 =>
          (bif decide (x8 = 0) then
              (base_GAdd (s2.2.1, s2.2.2, ()) x7).bind fun x9 =>
              some (x9.1, x9.2.1)
            else
              (base_GSub (s2.2.1, s2.2.2, ()) x7).bind fun x10 =>
              some (x10.1, x10.2.1)).bind fun (p11 : (Int × Int)) =>
          some (.inl (w64 (s2.1 + 1), p11.1, p11.2))
        else
          some (.inr (s2.2.1, s2.2.2))) (0, 0, 0)).bind fun (p12 : (Int × Int)) =>
      some (p12.1, p12.2, ())) := rfl
    rw [hunf, mx_len]
    have e0 : decide (((n + 1 : Nat) : Int) = 0) = false := decide_eq_false (by omega)
    rw [e0, cond_false]
    have htb : ∀ j, j < n + 1 → Bd (2 * (B * dB B n)) (gmul (f 0 j) (detF n (minor f 0 j))) := fun j hj => (hf 0 j (by omega) hj).mul (detF_bd hB0 n _ (minor_bd hf))
    rw [sum_loop (n + 1) (by omega) h0 hb (fun j => if j % 2 = 1 then gneg (gmul (f 0 j) (detF n (minor f 0 j))) else gmul (f 0 j) (detF n (minor f 0 j)))
      (fun j hj => by split; · exact (htb j hj).neg
                      · exact htb j hj) (fun j hj x y hxy => ?_) (fun x y => ?_)]
    · rfl
    · have e1 : decide ((j : Int) < ((n + 1 : Nat) : Int)) = true := decide_eq_true (by omega)
      simp only [e1, cond_true]
      rw [idx_zero, mx_at f (by omega)]
      simp only [Option.bind_some]
      rw [idx_of (mkL_get (fun k => f 0 k) hj)]
      simp only [Option.bind_some]
      rw [refWithout_ok (by omega) f hj]
      simp only [Option.bind_some]
      rw [refDet_ok hB k n _ (by omega) (by omega) (minor_bd hf) hDn]
      simp only [Option.bind_some]
      rw [GMul_ok (hf 0 j (by omega) hj) (detF_bd hB0 n _ (minor_bd (r := 0) (c := j) hf)) hb1]
      simp only [Option.bind_some]
      rw [Mod2_ok j (by omega)]
      simp only [Option.bind_some]
      by_cases hp : j % 2 = 1
      · have e2 : decide (((j % 2 : Nat) : Int) = 0) = false := decide_eq_false (by omega)
        rw [e2, cond_false, if_pos hp]
        have hm : base_GSub (x, y, ()) (gmul (f 0 j) (detF n (minor f 0 j))) = some (gadd (x, y, ()) (gneg (gmul (f 0 j) (detF n (minor f 0 j))))) := by
          have := sub_w hxy (htb j hj) (le_next h0 hj hb)
          rw [gsub_eq] at this
          exact congrArg some this
        rw [hm]
        rfl
      · have e2 : decide (((j % 2 : Nat) : Int) = 0) = true := decide_eq_true (by omega)
        rw [e2, cond_true, if_neg hp]
        rw [GAdd_ok hxy (htb j hj) (le_next h0 hj hb)]
        rfl
    · have e1 : decide (((n + 1 : Nat) : Int) < ((n + 1 : Nat) : Int)) = false := by simp
      simp only [e1, cond_false]
end Go.Proofs.YtbcdgfgacigaoaaGreat.Mat
end
section
set_option linter.unusedVariables false
set_option linter.unusedSimpArgs false
namespace Go.Proofs.YtbcdgfgacigaoaaGreat.Mat
open Go Go.Ab Go.Tx Go.Proofs.YtbcdgfgacigaoaaGreat
theorem CopyGausses_ok {l : List G} (h : l.length ≤ 1000000000) : base_CopyGausses l = some l := by
  unfold base_CopyGausses; rw [app_nil (by omega)]; rfl
theorem CopyMatrix_ok {m : Mx} (h : m.length ≤ 1000000000) (hr : ∀ r ∈ m, r.length ≤ 1000000000) : ref04_CopyMatrix m = some m := by
  unfold ref04_CopyMatrix
  rw [for_map m (fun r => r) (fun i a out hi ho => ?_) (fun out ho => ?_)]
  · simp
  · have hlt := len_lt hi
    have e0 : decide ((i : Int) < (m.length : Int)) = true := decide_eq_true (by omega)
    simp only [e0, cond_true, idx_of hi, Option.bind_some]
    rw [CopyGausses_ok (hr a (List.mem_of_getElem? hi))]
    simp only [Option.bind_some]
    rw [app_one (by omega)]
    simp only [Option.bind_some]
    rw [wid (by omega) (by omega)]
  · have e0 : decide ((m.length : Int) < (m.length : Int)) = false := by simp
    simp only [e0, cond_false]
theorem geq_dec (a b : G) : (bif decide (a.1 = b.1) then (bif decide (a.2.1 = b.2.1) then true else false) else false) = decide (a = b) := by
  rw [Bool.eq_iff_iff]
  rw [decide_eq_true_iff, gext_iff]
  by_cases h1 : a.1 = b.1 <;> by_cases h2 : a.2.1 = b.2.1 <;> simp [h1, h2]
theorem Gausses_ok {l m : List G} (hl : l.length ≤ 1000000000) : base_Gausses l m = some (decide (l = m)) := by
  unfold base_Gausses
  by_cases h : l.length = m.length
  case neg =>
    have d : decide ((l.length : Int) = (m.length : Int)) = false := decide_eq_false (by omega)
    rw [d]
    have : decide (l = m) = false := decide_eq_false (fun e => h (by rw [e]))
    rw [this]; rfl
  have d : decide ((l.length : Int) = (m.length : Int)) = true := decide_eq_true (by omega)
  rw [d]
  simp only [Bool.not_true, cond_false]
  refine ints_loop g0 h hl (fun a b => decide (a = b)) (fun a b _ _ => by simp) (K := _) (fun i hi => ?_)
  rw [idx_in g0 (by omega) (by omega), idx_in g0 (l := m) (by omega) (by omega)]
  simp only [Option.bind_some, Int.toNat_natCast]
  rw [geq_dec, wid (by omega) (by omega)]
  by_cases c : l.getD i g0 = m.getD i g0
  · simp only [c, decide_true, Bool.not_true, cond_false, if_true]
  · simp only [c, decide_false, Bool.not_false, cond_true, Bool.false_eq_true, if_false]
theorem SameMatrix_ok {l m : Mx} (hl : l.length ≤ 1000000000) (hr : ∀ r ∈ l, r.length ≤ 1000000000) : ref04_SameMatrix l m = some (decide (l = m)) := by
  unfold ref04_SameMatrix
  by_cases h : l.length = m.length
  case neg =>
    have d : decide ((l.length : Int) = (m.length : Int)) = false := decide_eq_false (by omega)
    rw [d]
    have : decide (l = m) = false := decide_eq_false (fun e => h (by rw [e]))
    rw [this]; rfl
  have d : decide ((l.length : Int) = (m.length : Int)) = true := decide_eq_true (by omega)
  rw [d]
  simp only [Bool.not_true, cond_false]
  refine ints_loop [] h hl (fun a b => decide (a = b)) (fun a b _ _ => by simp) (K := _) (fun i hi => ?_)
  rw [idx_in [] (by omega) (by omega), idx_in [] (l := m) (by omega) (by omega)]
  simp only [Option.bind_some, Int.toNat_natCast]
  rw [Gausses_ok (hr _ (getD_mem hi)), wid (by omega) (by omega)]
  simp only [Option.bind_some]
  by_cases c : l.getD i [] = m.getD i []
  · simp only [c, decide_true, Bool.not_true, cond_false, if_true]
  · simp only [c, decide_false, Bool.not_false, cond_true, Bool.false_eq_true, if_false]
def FewM (m : Mx) (rows : Nat) : Prop := m.length ≤ rows ∧ ∀ r ∈ m, r.length ≤ 5
theorem fewOf_ok (m : Mx) (rows : Nat) (h : rows ≤ 1000) : Ok (law04_fewOf m (rows : Int)) fun b => b = true → FewM m rows := by
  unfold law04_fewOf
  by_cases hl : m.length ≤ rows
  case neg =>
    have d : decide ((m.length : Int) > (rows : Int)) = true := decide_eq_true (by omega)
    rw [d, cond_true]; exact ok_some.2 (by simp)
  have d : decide ((m.length : Int) > (rows : Int)) = false := decide_eq_false (by omega)
  rw [d, cond_false, for_find m _ (fun _ r => if r.length ≤ 5 then none else some false) (fun i a hi => ?_), elim_toSum]
  · cases hf : findI (fun _ (r : List G) => if r.length ≤ 5 then none else some false) 0 m with
    | none =>
      rw [findI_none] at hf
      refine ok_some.2 fun _ => ⟨hl, fun r hr => ?_⟩
      obtain ⟨i, hi⟩ := List.mem_iff_getElem?.1 hr
      have := hf i r hi
      simpa using this
    | some r =>
      obtain ⟨i, a, _, h2, _⟩ := findI_some hf
      refine ok_some.2 fun h3 => ?_
      subst h3
      split at h2 <;> cases h2
  · have hlt := len_lt hi
    rw [idx_of hi, wid (by omega) (by omega)]
    simp only [Option.bind_some]
    by_cases c : a.length ≤ 5
    · have d : decide ((a.length : Int) > 5) = false := decide_eq_false (by omega)
      simp only [d, cond_false, c, if_true, stp]
    · have d : decide ((a.length : Int) > 5) = true := decide_eq_true (by omega)
      simp only [d, cond_true, c, if_false, stp]
theorem few_ok (m : Mx) : Ok (law04_few m) fun b => b = true → FewM m 5 := by
  unfold law04_few
  exact Ok.bind (fewOf_ok m 5 (by omega)) fun b hb => ok_some.2 hb
end Go.Proofs.YtbcdgfgacigaoaaGreat.Mat
end
section
set_option linter.unusedVariables false
set_option maxRecDepth 1000000
namespace Go.Tx
open Go
def dd (a b c d e f g h i : G) : G := gadd (gsub (gmul a (gsub (gmul e i) (gmul f h))) (gmul b (gsub (gmul d i) (gmul f g)))) (gmul c (gsub (gmul d h) (gmul e g)))
theorem det1_eq (f : Nat → Nat → G) : detF 1 f = f 0 0 := by
  simp only [detF, sumG]
  exact gext (by simp [gmul, g1, g0, gadd]) (by simp [gmul, g1, g0, gadd])
theorem det2_eq (f : Nat → Nat → G) : detF 2 f = gsub (gmul (f 0 0) (f 1 1)) (gmul (f 0 1) (f 1 0)) := by
  have e0 : detF 1 (minor f 0 0) = f 1 1 := by rw [det1_eq]; rfl
  have e1 : detF 1 (minor f 0 1) = f 1 0 := by rw [det1_eq]; rfl
  have e : detF 2 f = gadd (gadd g0 (gmul (f 0 0) (detF 1 (minor f 0 0)))) (gneg (gmul (f 0 1) (detF 1 (minor f 0 1)))) := rfl
  rw [e, e0, e1, gzero_add, ← gsub_eq]
theorem det3_eq (f : Nat → Nat → G) : detF 3 f = dd (f 0 0) (f 0 1) (f 0 2) (f 1 0) (f 1 1) (f 1 2) (f 2 0) (f 2 1) (f 2 2) := by
  have e0 : detF 2 (minor f 0 0) = gsub (gmul (f 1 1) (f 2 2)) (gmul (f 1 2) (f 2 1)) := by rw [det2_eq]; rfl
  have e1 : detF 2 (minor f 0 1) = gsub (gmul (f 1 0) (f 2 2)) (gmul (f 1 2) (f 2 0)) := by rw [det2_eq]; rfl
  have e2 : detF 2 (minor f 0 2) = gsub (gmul (f 1 0) (f 2 1)) (gmul (f 1 1) (f 2 0)) := by rw [det2_eq]; rfl
  have e : detF 3 f = gadd (gadd (gadd g0 (gmul (f 0 0) (detF 2 (minor f 0 0)))) (gneg (gmul (f 0 1) (detF 2 (minor f 0 1))))) (gmul (f 0 2) (detF 2 (minor f 0 2))) := rfl
  rw [e, e0, e1, e2, gzero_add, ← gsub_eq]
  rfl
theorem prod1 (f h : Nat → Nat → G) (i k : Nat) : prodF 1 f h i k = gmul (f i 0) (h 0 k) := by simp only [prodF, sumG, gzero_add]
theorem prod2 (f h : Nat → Nat → G) (i k : Nat) : prodF 2 f h i k = gadd (gmul (f i 0) (h 0 k)) (gmul (f i 1) (h 1 k)) := by simp only [prodF, sumG, gzero_add]
theorem prod3 (f h : Nat → Nat → G) (i k : Nat) : prodF 3 f h i k = gadd (gadd (gmul (f i 0) (h 0 k)) (gmul (f i 1) (h 1 k))) (gmul (f i 2) (h 2 k)) := by simp only [prodF, sumG, gzero_add]
set_option maxHeartbeats 40000000 in
theorem dd_mul1 (a b c d e f g h i A B C D E F G' H I : G) :
    (dd (gadd (gadd (gmul a A) (gmul b D)) (gmul c G')) (gadd (gadd (gmul a B) (gmul b E)) (gmul c H)) (gadd (gadd (gmul a C) (gmul b F)) (gmul c I))
      (gadd (gadd (gmul d A) (gmul e D)) (gmul f G')) (gadd (gadd (gmul d B) (gmul e E)) (gmul f H)) (gadd (gadd (gmul d C) (gmul e F)) (gmul f I))
      (gadd (gadd (gmul g A) (gmul h D)) (gmul i G')) (gadd (gadd (gmul g B) (gmul h E)) (gmul i H)) (gadd (gadd (gmul g C) (gmul h F)) (gmul i I))).1 = (gmul (dd a b c d e f g h i) (dd A B C D E F G' H I)).1 := by
  obtain ⟨a1, a2, _⟩ := a; obtain ⟨b1, b2, _⟩ := b; obtain ⟨c1, c2, _⟩ := c; obtain ⟨d1, d2, _⟩ := d; obtain ⟨e1, e2, _⟩ := e; obtain ⟨f1, f2, _⟩ := f; obtain ⟨x1, x2, _⟩ := g; obtain ⟨h1, h2, _⟩ := h; obtain ⟨i1, i2, _⟩ := i
  obtain ⟨A1, A2, _⟩ := A; obtain ⟨B1, B2, _⟩ := B; obtain ⟨C1, C2, _⟩ := C; obtain ⟨D1, D2, _⟩ := D; obtain ⟨E1, E2, _⟩ := E; obtain ⟨F1, F2, _⟩ := F; obtain ⟨X1, X2, _⟩ := G'; obtain ⟨H1, H2, _⟩ := H; obtain ⟨I1, I2, _⟩ := I
  simp only [dd, gadd, gsub, gmul]
  grind (ringSteps := 1000000)
set_option maxHeartbeats 40000000 in
theorem dd_mul2 (a b c d e f g h i A B C D E F G' H I : G) :
    (dd (gadd (gadd (gmul a A) (gmul b D)) (gmul c G')) (gadd (gadd (gmul a B) (gmul b E)) (gmul c H)) (gadd (gadd (gmul a C) (gmul b F)) (gmul c I))
      (gadd (gadd (gmul d A) (gmul e D)) (gmul f G')) (gadd (gadd (gmul d B) (gmul e E)) (gmul f H)) (gadd (gadd (gmul d C) (gmul e F)) (gmul f I))
      (gadd (gadd (gmul g A) (gmul h D)) (gmul i G')) (gadd (gadd (gmul g B) (gmul h E)) (gmul i H)) (gadd (gadd (gmul g C) (gmul h F)) (gmul i I))).2.1 = (gmul (dd a b c d e f g h i) (dd A B C D E F G' H I)).2.1 := by
  obtain ⟨a1, a2, _⟩ := a; obtain ⟨b1, b2, _⟩ := b; obtain ⟨c1, c2, _⟩ := c; obtain ⟨d1, d2, _⟩ := d; obtain ⟨e1, e2, _⟩ := e; obtain ⟨f1, f2, _⟩ := f; obtain ⟨x1, x2, _⟩ := g; obtain ⟨h1, h2, _⟩ := h; obtain ⟨i1, i2, _⟩ := i
  obtain ⟨A1, A2, _⟩ := A; obtain ⟨B1, B2, _⟩ := B; obtain ⟨C1, C2, _⟩ := C; obtain ⟨D1, D2, _⟩ := D; obtain ⟨E1, E2, _⟩ := E; obtain ⟨F1, F2, _⟩ := F; obtain ⟨X1, X2, _⟩ := G'; obtain ⟨H1, H2, _⟩ := H; obtain ⟨I1, I2, _⟩ := I
  simp only [dd, gadd, gsub, gmul]
  grind (ringSteps := 1000000)
theorem det_mul {n : Nat} (hn : n ≤ 3) (f h : Nat → Nat → G) : detF n (prodF n f h) = gmul (detF n f) (detF n h) := by
  match n, hn with
  | 0, _ => exact (gone_mul g1).symm
  | 1, _ => rw [det1_eq, det1_eq, det1_eq, prod1]
  | 2, _ =>
    rw [det2_eq, det2_eq, det2_eq]
    simp only [prod2]
    generalize f 0 0 = a; generalize f 0 1 = b; generalize f 1 0 = c; generalize f 1 1 = d
    generalize h 0 0 = p; generalize h 0 1 = q; generalize h 1 0 = r; generalize h 1 1 = s
    refine gext ?_ ?_
    · simp only [gadd, gsub, gmul]; grind
    · simp only [gadd, gsub, gmul]; grind
  | 3, _ =>
    rw [det3_eq, det3_eq, det3_eq]
    simp only [prod3]
    exact gext (dd_mul1 ..) (dd_mul2 ..)
end Go.Tx
end
section
set_option linter.unusedVariables false
set_option linter.unusedSimpArgs false
namespace Go.Proofs.YtbcdgfgacigaoaaGreat.Mat
open Go Go.Ab Go.Tx Go.Proofs.YtbcdgfgacigaoaaGreat
theorem Size_ok {n : Int} (h : -9223372036854775807 ≤ n ∧ n ≤ 9223372036854775807) : base_Size n = some (n.natAbs : Int) := by
  unfold base_Size
  rw [wid (by omega) (by omega)]
  congr 1; omega
theorem Gcd_ok {a b : Int} (ha : a.natAbs ≤ 4611686018427387904) (hb : b.natAbs ≤ 4611686018427387904) : base_Gcd a b = some (Int.gcd a b : Int) := by
  unfold base_Gcd
  refine Ok.eq ?_
  rw [ok_bind]
  refine (Gcd_loop a b ha hb).mono fun r hr => ?_
  have := gcd_le ha hb
  rw [Size_ok (by omega), Option.bind_some, ok_some, hr]
theorem divisor_ok (l : List Int) (hl : l.length ≤ 1000000000) (hb : ∀ x ∈ l, x.natAbs ≤ 4611686018427387904) : drive_divisor l = some (gcdL l : Int) := by
  unfold drive_divisor; exact divisor_loop l hl hb
theorem without_any {n r c : Nat} (hn : n ≤ 1000) (f : Nat → Nat → G) (hr : r < n + 1) (hc : c < n + 1) : drive_matrix_without (mx (n + 1) (n + 1) f) (r : Int) (c : Int) = some (mx n n (minor f r c)) := by
  unfold drive_matrix_without
  rw [mx_len]
  refine Ok.eq ?_
  rw [ok_bind]
  refine (loop_up (n + 1) (fun i (s : Mx × Int) => s = (mkL (if i ≤ r then i else i - 1) (fun j => mkL n fun k => minor f r c j k), (i : Int))) (fun q => q = mx n n (minor f r c)) (by simp [mkL_zero]) ?_).mono (fun a ha => by rw [ha]; exact ok_some.2 rfl)
  rintro i s hi rfl
  by_cases hlt : i < n + 1
  · have e0 : decide ((i : Int) < ((n + 1 : Nat) : Int)) = true := decide_eq_true (by omega)
    simp only [e0, cond_true]
    rw [idx_of (mx_at f hlt)]
    simp only [Option.bind_some]
    by_cases hz : i = r
    · subst hz
      simp only [decide_true, Bool.not_true, cond_false, Option.bind_some]
      rw [wid (by omega) (by omega), rnd_inl]
      refine ⟨hlt, ?_⟩
      rw [if_pos (Nat.le_refl _), if_neg (by omega)]; rfl
    · have e1 : decide ((i : Int) = (r : Int)) = false := decide_eq_false (by omega)
      simp only [e1, Bool.not_false, cond_true]
      rw [slc_in (by rw [mkL_len]; omega)]
      simp only [Option.bind_some, decide_true, cond_true]
      rw [wid (n := (c : Int) + 1) (by omega) (by omega), slc_in (by rw [mkL_len]; omega)]
      simp only [Option.bind_some, mkL_len]
      have e2 : ((c : Int) + 1).toNat = c + 1 := by omega
      have e3 : ((n + 1 : Nat) : Int).toNat = n + 1 := by omega
      have e4 : (0 : Int).toNat = 0 := rfl
      rw [e2, e3, e4, Int.toNat_natCast, app_in (by simp [mkL_len]; omega)]
      simp only [Option.bind_some]
      rw [mkL_cut (fun k => f i k) hc, app_one (by rw [mkL_len]; split <;> omega)]
      simp only [Option.bind_some]
      rw [wid (by omega) (by omega), rnd_inl]
      refine ⟨hlt, ?_⟩
      congr 1
      by_cases hir : i < r
      · rw [if_pos (by omega), if_pos (by omega), mkL_succ]
        congr 2
        refine mkL_congr fun k hk => ?_
        unfold minor
        rw [show skip r i = i by unfold skip; rw [if_pos hir]]
      · rw [if_neg (by omega), if_neg (by omega)]
        have e5 : i + 1 - 1 = (i - 1) + 1 := by omega
        rw [e5, mkL_succ]
        congr 2
        refine mkL_congr fun k hk => ?_
        unfold minor
        rw [show skip r (i - 1) = i by unfold skip; rw [if_neg (by omega)]; omega]
  · have : i = n + 1 := by omega
    subst this
    have e0 : decide (((n + 1 : Nat) : Int) < ((n + 1 : Nat) : Int)) = false := by simp
    simp only [e0, cond_false]
    rw [rnd_inr, if_neg (by omega)]
    rfl
def parts (l : List G) : List Int := l.flatMap fun z => [z.1, z.2.1]
def partsM (m : Mx) : List Int := m.flatMap parts
theorem parts_app (l : List G) (z : G) : parts (l ++ [z]) = parts l ++ [z.1] ++ [z.2.1] := by simp [parts]
theorem partsM_app (m : Mx) (r : List G) : partsM (m ++ [r]) = partsM m ++ parts r := by simp [partsM]
theorem gcdF_app : ∀ (l m : List Int) (g : Nat), gcdF g (l ++ m) = gcdF (gcdF g l) m
  | [], m, g => rfl
  | x :: l, m, g => by simp only [List.cons_append, gcdF]; exact gcdF_app l m _
def qg (den : Int) (m : Mx) : Nat := gcdF den.natAbs (partsM m)
def quotF (g : Int) (f : Nat → Nat → G) (i k : Nat) : G := ((f i k).1.tdiv g, (f i k).2.1.tdiv g, ())
theorem parts_bd {B : Int} {l : List G} (h : ∀ z ∈ l, Bd B z) {x : Int} (hx : x ∈ parts l) : -B ≤ x ∧ x ≤ B := by
  unfold parts at hx
  obtain ⟨z, hz, hx⟩ := List.mem_flatMap.1 hx
  have := h z hz
  unfold Bd at this
  simp only [List.mem_cons, List.not_mem_nil, or_false] at hx
  rcases hx with rfl | rfl <;> omega
theorem partsM_bd {B : Int} {m : Mx} (h : BdM B m) {x : Int} (hx : x ∈ partsM m) : -B ≤ x ∧ x ≤ B := by
  unfold partsM at hx
  obtain ⟨r, hr, hx⟩ := List.mem_flatMap.1 hx
  exact parts_bd (h r hr) hx
theorem qg_le {B : Int} {den : Int} {m : Mx} (h0 : 0 ≤ den) (hd : den ≤ B) (h : BdM B m) : (qg den m : Int) ≤ B := by
  have : qg den m ≤ B.toNat := gcdF_le (by omega) fun x hx => by have := partsM_bd h hx; omega
  omega
theorem qg_pos {den : Int} {m : Mx} (h : den ≠ 0) : 0 < qg den m := by
  rcases Nat.eq_zero_or_pos (qg den m) with h0 | h0
  · have := (gcdF_zero.1 h0).1; omega
  · exact h0
theorem row_gcd {B : Int} (hB : B ≤ 4611686018427387904) {r : List G} (hl : r.length ≤ 1000000) (h : ∀ z ∈ r, Bd B z) {g : Nat} (hg : (g : Int) ≤ B) {K : Nat × Int → Prop} :
    Ok (loopO (fun (s5 : (Int × Int)) =>
            bif decide (s5.1 < (r.length : Int)) then
              (idx r s5.1).bind fun x6 =>
              (drive_divisor ([s5.2, x6.1, x6.2.1])).bind fun x7 =>
              some (.inl (w64 (s5.1 + 1), x7))
            else
              some (.inr s5.2)) (0, (g : Int))) fun x => x = (gcdF g (parts r) : Int) := by
  refine loop_up r.length (fun i (s : Int × Int) => s = ((i : Int), (gcdF g (parts (r.take i)) : Int))) _ rfl ?_
  rintro i s hi rfl
  by_cases hlt : i < r.length
  · have e0 : decide ((i : Int) < (r.length : Int)) = true := decide_eq_true (by omega)
    have hz : r[i]? = some (r.getD i g0) := at_getD _ hlt
    have hb := h _ (getD_mem (d := g0) hlt)
    have hgb : gcdF g (parts (r.take i)) ≤ B.toNat := gcdF_le (by omega) fun x hx => by
      have := parts_bd (fun z hz => h z (List.mem_of_mem_take hz)) hx; omega
    unfold Bd at hb
    simp only [e0, cond_true]
    rw [idx_of hz]
    simp only [Option.bind_some]
    rw [divisor_ok _ (by simp) (by
      intro x hx
      simp only [List.mem_cons, List.not_mem_nil, or_false] at hx
      rcases hx with rfl | rfl | rfl <;> omega)]
    simp only [Option.bind_some]
    rw [wid (by omega) (by omega), rnd_inl]
    refine ⟨hlt, ?_⟩
    congr 2
    rw [take_next g0 hlt, parts_app, gcdF_snoc, gcdF_snoc, gcdL_three]
    rfl
  · have : i = r.length := by omega
    subst this
    have e0 : decide ((r.length : Int) < (r.length : Int)) = false := by simp
    simp only [e0, cond_false]
    rw [rnd_inr, List.take_length]
theorem all_gcd {B den : Int} (hB : B ≤ 4611686018427387904) {m : Mx} (hl : m.length ≤ 1000000) (hr : ∀ r ∈ m, r.length ≤ 1000000) (h : BdM B m) (h0 : 0 ≤ den) (hd : den ≤ B) :
    loopO (fun (s2 : (Int × Int)) =>
      bif decide (s2.1 < (m.length : Int)) then
        (idx m s2.1).bind fun x3 =>
        (loopO (fun (s5 : (Int × Int)) =>
            bif decide (s5.1 < (x3.length : Int)) then
              (idx x3 s5.1).bind fun x6 =>
              (drive_divisor ([s5.2, x6.1, x6.2.1])).bind fun x7 =>
              some (.inl (w64 (s5.1 + 1), x7))
            else
              some (.inr s5.2)) (0, s2.2)).bind fun (p8 : Int) =>
        some (.inl (w64 (s2.1 + 1), p8))
      else
        some (.inr s2.2)) (0, den) = some (qg den m : Int) := by
  refine Ok.eq (loop_up m.length (fun i (s : Int × Int) => s = ((i : Int), (qg den (m.take i) : Int))) _ (by
    have : ((qg den (m.take 0) : Nat) : Int) = den := by simp [qg, partsM, gcdF] <;> omega
    rw [this]; rfl) ?_)
  rintro i s hi rfl
  by_cases hlt : i < m.length
  · have e0 : decide ((i : Int) < (m.length : Int)) = true := decide_eq_true (by omega)
    have hz : m[i]? = some (m.getD i []) := at_getD _ hlt
    have hmem := getD_mem (d := ([] : List G)) hlt
    simp only [e0, cond_true]
    rw [idx_of hz]
    simp only [Option.bind_some]
    rw [rnd_bind]
    refine (row_gcd hB (hr _ hmem) (h _ hmem) (qg_le h0 hd (fun r hr => h r (List.mem_of_mem_take hr))) (K := fun _ => True)).mono ?_
    rintro x rfl
    rw [wid (by omega) (by omega), rnd_inl]
    refine ⟨hlt, ?_⟩
    congr 2
    rw [take_next [] hlt]
    unfold qg
    rw [partsM_app, gcdF_app]
  · have : i = m.length := by omega
    subst this
    have e0 : decide ((m.length : Int) < (m.length : Int)) = false := by simp
    simp only [e0, cond_false]
    rw [rnd_inr, List.take_length]
theorem tdiv_bd {x g B : Int} (h : -B ≤ x ∧ x ≤ B) : -B ≤ x.tdiv g ∧ x.tdiv g ≤ B := by
  have h1 : (x.tdiv g).natAbs ≤ x.natAbs := by rw [Int.natAbs_tdiv]; exact Nat.div_le_self _ _
  omega
def quotQ (n c : Nat) (f : Nat → Nat → G) (den : Int) : Int × Mx × Unit := (den.tdiv (qg den (mx n c f)), mx n c (quotF (qg den (mx n c f)) f), ())
theorem made_q {n c : Nat} (hn : n ≤ 1000) (hc : c ≤ 1000) (m : Mx) (g : Int) (f : Nat → Nat → G) (h : ∀ i k : Nat, i < n → k < c → drive_quotient_1 i k m g = some (f i k)) : drive_made_of_drive_quotient_1 (n : Int) (c : Int) m g = some (mx n c f) := by
  unfold drive_made_of_drive_quotient_1
  exact made_loop n c hn hc (fun i k => drive_quotient_1 i k m g) f h
theorem quotient_ok {n c : Nat} {B den : Int} {f : Nat → Nat → G} (hB : B ≤ 4611686018427387904) (hn : 1 ≤ n) (hn2 : n ≤ 1000) (hc : c ≤ 1000) (h : BdF B n c f) (h0 : 0 < den) (hd : den ≤ B) :
    drive_quotient (mx n c f) den = some (quotQ n c f den) := by
  unfold drive_quotient
  rw [all_gcd hB (by rw [mx_len]; omega) (fun r hr => by rw [(mx_rect n c f).2 r hr]; omega) (bdM_mx.2 h) (by omega) hd]
  simp only [Option.bind_some]
  rw [idx_zero, mx_at f (by omega), Option.bind_some, mkL_len, mx_len]
  have hg : 0 < qg den (mx n c f) := qg_pos (by omega)
  have hgne : decide ((qg den (mx n c f) : Int) = 0) = false := decide_eq_false (by omega)
  have hm := made_q hn2 hc (mx n c f) (qg den (mx n c f)) (quotF (qg den (mx n c f)) f) (fun i k hi hk => by
    unfold drive_quotient_1
    rw [idx_of (mx_at f hi)]
    simp only [Option.bind_some]
    rw [idx_of (mkL_get (fun k => f i k) hk)]
    simp only [Option.bind_some, hgne, cond_false]
    have hb := h i k hi hk
    unfold Bd at hb
    have t1 := tdiv_bd (g := (qg den (mx n c f) : Int)) hb.1
    have t2 := tdiv_bd (g := (qg den (mx n c f) : Int)) hb.2
    rw [wid (by omega) (by omega), wid (by omega) (by omega)]
    rfl)
  rw [hm]
  simp only [Option.bind_some, hgne, cond_false]
  have t3 := tdiv_bd (g := (qg den (mx n c f) : Int)) (B := B) (x := den) (by omega)
  rw [wid (by omega) (by omega)]
  rfl
theorem gcd_two (g : Nat) (a b : Int) : Int.gcd (g : Int) ((Int.gcd a b : Nat) : Int) = Nat.gcd (Nat.gcd g a.natAbs) b.natAbs := by
  simp only [Int.gcd, Int.natAbs_natCast]
  exact (Nat.gcd_assoc g a.natAbs b.natAbs).symm
end Go.Proofs.YtbcdgfgacigaoaaGreat.Mat
end
section
set_option linter.unusedVariables false
set_option linter.unusedSimpArgs false
namespace Go.Proofs.YtbcdgfgacigaoaaGreat.Mat
open Go Go.Ab Go.Tx Go.Proofs.YtbcdgfgacigaoaaGreat
def dC (B : Int) : Nat → Int
  | 0 => 1
  | 1 => B
  | n + 2 => ((n + 2 : Nat) : Int) * (2 * (B * dC B (n + 1)))
theorem detF_bdC {B : Int} (hB : 0 ≤ B) : ∀ (n : Nat) (f : Nat → Nat → G), BdF B n n f → Bd (dC B n) (detF n f)
  | 0, f, _ => bd_one (by simp [dC])
  | 1, f, h => by rw [det1_eq]; exact h 0 0 (by omega) (by omega)
  | n + 2, f, h => by
    simp only [detF, dC]
    refine Bd.sum fun k hk => ?_
    have h1 := (h 0 k (by omega) hk).mul (detF_bdC hB (n + 1) _ (minor_bd (r := 0) (c := k) h))
    split
    · exact h1.neg
    · exact h1
def cofF (n : Nat) (f : Nat → Nat → G) (i k : Nat) : G := detF n (minor f k i)
def adjF (n : Nat) (f : Nat → Nat → G) (i k : Nat) : G := if (i + k) % 2 = 1 then gneg (cofF n f i k) else cofF n f i k
def invT (n : Nat) (f : Nat → Nat → G) (d : G) (i k : Nat) : G := gmul (adjF n f i k) (gconj d)
def norm (d : G) : Int := d.1 * d.1 + d.2.1 * d.2.1
theorem norm_mul (d : G) : gmul d (gconj d) = (norm d, 0, ()) := gext (by simp only [gmul, gconj, norm]; grind) (by simp only [gmul, gconj]; grind)
theorem norm_pos {d : G} (h : d ≠ g0) : 0 < norm d := by
  unfold norm
  have h1 := sq_nonneg d.1
  have h2 := sq_nonneg d.2.1
  rcases Int.lt_or_le 0 (d.1 * d.1 + d.2.1 * d.2.1) with h3 | h3
  · exact h3
  · exfalso
    have e1 := sq_zero (show d.1 * d.1 = 0 by omega)
    have e2 := sq_zero (show d.2.1 * d.2.1 = 0 by omega)
    exact h (gext e1 e2)
theorem conj_ok {B : Int} {d : G} (h : Bd B d) (hB : B ≤ 9000000000000000000) : drive_whole_conj d = some (gconj d) := by
  unfold drive_whole_conj gconj
  unfold Bd at h
  rw [wid (by omega) (by omega)]
  have e : (0 : Int) - d.2.1 = -d.2.1 := by omega
  rw [e]
theorem neg_mul (a b : G) : gmul (gneg a) b = gneg (gmul a b) := gext (by simp only [gmul, gneg]; grind) (by simp only [gmul, gneg]; grind)
theorem minus0_ok {B : Int} {a : G} (h : Bd B a) (hB : B ≤ 9000000000000000000) : drive_whole_minus (0, 0, ()) a = some (gneg a) := by
  have := sub_w (a := g0) (bd_zero (B := 0) (by omega)) h (by omega)
  rw [gzero_sub] at this
  exact congrArg some this
theorem tmod2 (j : Nat) : (j : Int).tmod 2 = ((j % 2 : Nat) : Int) := by rw [Int.tmod_eq_emod_of_nonneg (by omega)]; omega
theorem made_inv {n c : Nat} (hn : n ≤ 1000) (hc : c ≤ 1000) (m : Mx) (d : G) (f : Nat → Nat → G) (h : ∀ i k : Nat, i < n → k < c → drive_matrix_inverse_1 i k m d = some (f i k)) : drive_made_of_drive_matrix_inverse_1 (n : Int) (c : Int) m d = some (mx n c f) := by
  unfold drive_made_of_drive_matrix_inverse_1
  exact made_loop n c hn hc (fun i k => drive_matrix_inverse_1 i k m d) f h
structure InvB (n : Nat) (f : Nat → Nat → G) (d : G) (B M D Q : Int) : Prop where
  hB : 1 ≤ B
  hf : BdF B (n + 1) (n + 1) f
  crude : dB B n ≤ 9000000000000000000
  minor : ∀ i k, i < n + 1 → k < n + 1 → Bd M (cofF n f i k)
  hd : Bd D d
  md : 2 * (M * D) ≤ Q
  dd : 2 * (D * D) ≤ 9000000000000000000
  hQ : Q ≤ 4611686018427387904
  M0 : M ≤ 9000000000000000000
  D0 : D ≤ 9000000000000000000
  nq : norm d ≤ Q
  nz : d ≠ g0
theorem InvB.adj {n : Nat} {f : Nat → Nat → G} {d : G} {B M D Q : Int} (h : InvB n f d B M D Q) {i k : Nat} (hi : i < n + 1) (hk : k < n + 1) : Bd M (adjF n f i k) := by
  unfold adjF
  split
  · exact (h.minor i k hi hk).neg
  · exact h.minor i k hi hk
theorem InvB.t {n : Nat} {f : Nat → Nat → G} {d : G} {B M D Q : Int} (h : InvB n f d B M D Q) : BdF Q (n + 1) (n + 1) (invT n f d) := fun i k hi hk => ((h.adj hi hk).mul h.hd.conj).mono h.md
theorem det12 {n : Nat} {f : Nat → Nat → G} {B : Int} (hB : 1 ≤ B) (hn : n ≤ 10) (hf : BdF B n n f) (hb : dB B n ≤ 9000000000000000000) : drive_matrix_determinant (mx n n f) = some (detF n f) := by
  unfold drive_matrix_determinant; exact det_ok hB 12 n f (by omega) (by omega) hf hb
theorem refDet12 {n : Nat} {f : Nat → Nat → G} {B : Int} (hB : 1 ≤ B) (hn : n ≤ 10) (hf : BdF B n n f) (hb : dB B n ≤ 9000000000000000000) : ref04_Determinant (mx n n f) = some (detF n f) := by
  unfold ref04_Determinant; exact refDet_ok hB 12 n f (by omega) (by omega) hf hb
theorem inverse_ok {n : Nat} {f : Nat → Nat → G} {d : G} {B M D Q : Int} (hn : n ≤ 5) (h : InvB n f d B M D Q) :
    drive_matrix_inverse (mx (n + 1) (n + 1) f) d = some (quotQ (n + 1) (n + 1) (invT n f d) (norm d)) := by
  unfold drive_matrix_inverse
  rw [mx_len]
  have h2Q : 2 * (M * D) ≤ 9000000000000000000 := by have := h.md; have := h.hQ; omega
  rw [made_inv (by omega) (by omega) _ d (invT n f d) (fun i k hi hk => by
    unfold drive_matrix_inverse_1
    rw [without_any (by omega) f hk hi]
    simp only [Option.bind_some]
    rw [det12 h.hB (by omega) (minor_bd h.hf) h.crude]
    simp only [Option.bind_some]
    rw [conj_ok h.hd h.D0]
    simp only [Option.bind_some]
    have hb := h.minor i k hi hk
    unfold cofF at hb
    rw [times_ok' hb h.hd.conj h2Q]
    simp only [Option.bind_some]
    rw [wid (by omega) (by omega)]
    have e0 : ((i : Int) + (k : Int)) = ((i + k : Nat) : Int) := by omega
    rw [e0, tmod2]
    unfold invT adjF cofF
    by_cases hp : (i + k) % 2 = 1
    · have e2 : decide ((((i + k) % 2 : Nat) : Int) = 1) = true := decide_eq_true (by omega)
      rw [e2, cond_true, if_pos hp, minus0_ok (hb.mul h.hd.conj) h2Q, neg_mul]; rfl
    · have e2 : decide ((((i + k) % 2 : Nat) : Int) = 1) = false := decide_eq_false (by omega)
      rw [e2, cond_false, if_neg hp])]
  simp only [Option.bind_some]
  rw [conj_ok h.hd h.D0]
  simp only [Option.bind_some]
  rw [times_ok' h.hd h.hd.conj h.dd, norm_mul]
  simp only [Option.bind_some]
  rw [quotient_ok h.hQ (by omega) (by omega) (by omega) h.t (norm_pos h.nz) h.nq]
  rfl
def gsize (z : G) : Int := (z.1.natAbs : Int) + (z.2.1.natAbs : Int)
def sumZ : Nat → (Nat → Int) → Int
  | 0, _ => 0
  | n + 1, f => sumZ n f + f n
def maxZ : Nat → (Nat → Int) → Int
  | 0, _ => 0
  | n + 1, f => max (maxZ n f) (f n)
def rsum (n c : Nat) (f : Nat → Nat → G) : Int := maxZ n fun i => sumZ c fun k => gsize (f i k)
theorem gsize_bd {B : Int} {z : G} (h : Bd B z) : 0 ≤ gsize z ∧ gsize z ≤ 2 * B := by unfold gsize; unfold Bd at h; omega
theorem sumZ_bd {B : Int} {f : Nat → Int} : ∀ {n : Nat}, (∀ k, k < n → 0 ≤ f k ∧ f k ≤ B) → 0 ≤ sumZ n f ∧ sumZ n f ≤ n * B
  | 0, _ => by simp [sumZ]
  | n + 1, h => by
    have h1 := sumZ_bd (n := n) fun k hk => h k (by omega)
    have h2 := h n (by omega)
    have e : ((n + 1 : Nat) : Int) * B = n * B + B := by rw [Int.natCast_add, Int.add_mul]; simp
    simp only [sumZ] <;> omega
theorem maxZ_bd {B : Int} (hB : 0 ≤ B) {f : Nat → Int} : ∀ {n : Nat}, (∀ k, k < n → f k ≤ B) → 0 ≤ maxZ n f ∧ maxZ n f ≤ B
  | 0, _ => by simp [maxZ, hB]
  | n + 1, h => by
    have h1 := maxZ_bd hB (n := n) fun k hk => h k (by omega)
    have h2 := h n (by omega)
    simp only [maxZ] <;> omega
theorem size_ok {B : Int} {z : G} (h : Bd B z) (hB : B ≤ 4000000000000000000) : drive_whole_size z = some (gsize z) := by
  unfold drive_whole_size gsize
  unfold Bd at h
  rw [wid (n := 0 - z.1) (by omega) (by omega), wid (n := 0 - z.2.1) (by omega) (by omega), wid (by omega) (by omega)]
  congr 1; omega
theorem sum_le {c k : Nat} {B : Int} (hB : 0 ≤ B) (h : k ≤ c) : (k : Int) * (2 * B) ≤ c * (2 * B) := Int.mul_le_mul_of_nonneg_right (by omega) (by omega)
theorem rowSum_ok {n c : Nat} {B : Int} {f : Nat → Nat → G} (hB0 : 0 ≤ B) (hf : BdF B n c f) (hn : n ≤ 1000) (hc : c ≤ 1000) (hb : (c : Int) * (2 * B) ≤ 4000000000000000000) (hB : B ≤ 4000000000000000000) : drive_matrix_rowSum (mx n c f) = some (rsum n c f) := by
  unfold drive_matrix_rowSum
  rw [mx_len]
  refine Ok.eq ?_
  rw [ok_bind]
  refine (loop_up n (fun i (s : Int × Int) => s = (maxZ i (fun i => sumZ c fun k => gsize (f i k)), (i : Int))) (fun r => r = rsum n c f) rfl ?_).mono (fun a ha => by rw [ha]; exact ok_some.2 rfl)
  rintro i s hi rfl
  by_cases hlt : i < n
  · have e0 : decide ((i : Int) < (n : Int)) = true := decide_eq_true (by omega)
    simp only [e0, cond_true]
    rw [idx_of (mx_at f hlt)]
    simp only [Option.bind_some, mkL_len]
    rw [rnd_bind]
    refine (loop_up c (fun k (s : Int × Int) => s = (sumZ k (fun k => gsize (f i k)), (k : Int))) (fun r => r = sumZ c fun k => gsize (f i k)) rfl ?_).mono ?_
    · rintro k s hk rfl
      by_cases hlt2 : k < c
      · have e1 : decide ((k : Int) < (c : Int)) = true := decide_eq_true (by omega)
        simp only [e1, cond_true]
        rw [at_ok f hlt hlt2]
        simp only [Option.bind_some]
        rw [size_ok (hf i k hlt hlt2) hB]
        simp only [Option.bind_some]
        have hs := sumZ_bd (B := 2 * B) (f := fun k => gsize (f i k)) (n := k) fun j hj => gsize_bd (hf i j hlt (by omega))
        have hz := gsize_bd (hf i k hlt hlt2)
        have hle := sum_le hB0 (show k + 1 ≤ c by omega)
        have e : ((k + 1 : Nat) : Int) * (2 * B) = k * (2 * B) + 2 * B := by rw [Int.natCast_add, Int.add_mul]; simp
        rw [wid (by omega) (by omega), wid (by omega) (by omega), rnd_inl]
        exact ⟨hlt2, rfl⟩
      · have : k = c := by omega
        subst this
        have e1 : decide ((k : Int) < (k : Int)) = false := by simp
        simp only [e1, cond_false]
        rw [rnd_inr]
    · rintro r rfl
      rw [wid (by omega) (by omega), rnd_inl]
      exact ⟨hlt, rfl⟩
  · have : i = n := by omega
    subst this
    have e0 : decide ((i : Int) < (i : Int)) = false := by simp
    simp only [e0, cond_false]
    rw [rnd_inr]
    rfl
def diagF (s : Int) (i k : Nat) : G := if i = k then (s, 0, ()) else g0
theorem made_u {n c : Nat} (hn : n ≤ 1000) (hc : c ≤ 1000) (f : Nat → Nat → G) (h : ∀ i k : Nat, i < n → k < c → drive_unit_1 i k = some (f i k)) : drive_made_of_drive_unit_1 (n : Int) (c : Int) = some (mx n c f) := by
  unfold drive_made_of_drive_unit_1
  exact made_loop n c hn hc (fun i k => drive_unit_1 i k) f h
theorem unit_ok {n : Nat} (hn : n ≤ 1000) : drive_unit (n : Int) = some (mx n n (diagF 1)) := by
  unfold drive_unit
  rw [made_u hn hn (diagF 1) (fun i k hi hk => by
    unfold drive_unit_1 diagF
    by_cases h : i = k
    · rw [if_pos h, decide_eq_true (show (i : Int) = (k : Int) by omega)]; rfl
    · rw [if_neg h, decide_eq_false (show ¬ (i : Int) = (k : Int) by omega)]; rfl)]
  rfl
theorem made_s {n c : Nat} (hn : n ≤ 1000) (hc : c ≤ 1000) (m : Mx) (s : Int) (f : Nat → Nat → G) (h : ∀ i k : Nat, i < n → k < c → drive_matrix_scaled_1 i k m s = some (f i k)) : drive_made_of_drive_matrix_scaled_1 (n : Int) (c : Int) m s = some (mx n c f) := by
  unfold drive_made_of_drive_matrix_scaled_1
  exact made_loop n c hn hc (fun i k => drive_matrix_scaled_1 i k m s) f h
theorem scaled_ok {n c : Nat} {A B s : Int} {f : Nat → Nat → G} (hn1 : 1 ≤ n) (hn : n ≤ 1000) (hc : c ≤ 1000) (hf : BdF A n c f) (hs : -B ≤ s ∧ s ≤ B) (hb : 2 * (A * B) ≤ 9000000000000000000) :
    drive_matrix_scaled (mx n c f) s = some (mx n c fun i k => gmul (f i k) (s, 0, ())) := by
  unfold drive_matrix_scaled
  rw [idx_zero, mx_at f (by omega), Option.bind_some, mkL_len, mx_len]
  rw [made_s hn hc _ s (fun i k => gmul (f i k) (s, 0, ())) (fun i k hi hk => by
    unfold drive_matrix_scaled_1
    rw [at_ok f hi hk]
    simp only [Option.bind_some]
    rw [times_ok' (hf i k hi hk) (B := B) (by unfold Bd; simp only; omega) hb]; rfl)]
  rfl
theorem diag_scaled (s : Int) (i k : Nat) : gmul (diagF 1 i k) (s, 0, ()) = diagF s i k := by
  unfold diagF
  by_cases h : i = k
  · rw [if_pos h, if_pos h]; exact gone_mul _
  · rw [if_neg h, if_neg h]; exact gzero_mul _
theorem diag_bd {s B : Int} (h0 : 0 ≤ B) (h : -B ≤ s ∧ s ≤ B) (n c : Nat) : BdF B n c (diagF s) := fun i k _ _ => by
  unfold diagF
  split
  · unfold Bd; simp only <;> omega
  · exact bd_zero h0
theorem unit_scaled_ok {n : Nat} {s : Int} (hn1 : 1 ≤ n) (hn : n ≤ 1000) (hs : -4000000000000000000 ≤ s ∧ s ≤ 4000000000000000000) :
    drive_matrix_scaled (mx n n (diagF 1)) s = some (mx n n (diagF s)) := by
  rw [scaled_ok (A := 1) (B := 4000000000000000000) hn1 hn hn (diag_bd (by omega) (by omega) n n) hs (by omega)]
  congr 1
  exact mx_congr fun i k _ _ => diag_scaled s i k
theorem one_ok {n : Nat} {s : Int} (hn : n ≤ 1000) : ref04_one (n : Int) s = some (mx n n (diagF s)) := by
  unfold ref04_one
  rw [for_mk n (fun i => mkL n fun k => diagF s i k) (fun i hi => ?_) ?_]
  · rfl
  · have e0 : decide ((n : Int) < (n : Int)) = false := by simp
    simp only [e0, cond_false]
  · have e0 : decide ((i : Int) < (n : Int)) = true := decide_eq_true (by omega)
    simp only [e0, cond_true]
    rw [mkS_in (by omega)]
    simp only [Option.bind_some, decide_true, cond_true]
    have hl : (List.replicate ((n : Int).toNat) ((0, 0, ()) : G)).length = n := by simp
    rw [idx_in g0 (by omega) (by rw [hl]; omega)]
    simp only [Option.bind_some, Int.toNat_natCast]
    have hrow : (List.replicate n ((0, 0, ()) : G)).set i (s, 0, ()) = mkL n fun k => diagF s i k := by
      refine mkL_of (by simp) fun k hk => ?_
      rw [List.getElem?_set, List.getElem?_replicate, List.length_replicate]
      unfold diagF
      by_cases h : i = k
      · rw [if_pos h, if_pos h, if_pos (by omega)]
      · rw [if_neg h, if_neg h, if_pos hk]; rfl
    rw [hrow, app_one (by rw [mkL_len]; omega)]
    simp only [Option.bind_some]
    rw [wid (by omega) (by omega)]
def difI (a b : Mx) : Option Nat := findI (fun i r => if r = b.getD i [] then none else some i) 0 a
theorem equal_ok {l m : List G} (hl : l.length ≤ 1000000000) : slices_Equal_Lapi_Gauss_api_Gauss l m = some (decide (l = m)) := by
  have h := Gausses_ok (l := l) (m := m) hl
  unfold base_Gausses at h
  unfold slices_Equal_Lapi_Gauss_api_Gauss
  exact h
theorem differs_ok {a b : Mx} (ha : a.length ≤ 1000000000) (hb : a.length ≤ b.length) (har : ∀ r ∈ a, r.length ≤ 1000000000) : drive_differs a b = some (match difI a b with
    | some i => ((i : Int), true)
    | none => (0, false)) := by
  unfold drive_differs difI
  rw [for_find a _ (fun i r => if r = b.getD i [] then none else some ((i : Int), true)) (fun i r hi => ?_), elim_toSum]
  · have key : ∀ (l : Mx) (k : Nat), findI (fun i r => if r = b.getD i [] then none else some ((i : Int), true)) k l = (findI (fun i r => if r = b.getD i [] then none else some i) k l).map fun (i : Nat) => ((i : Int), true) := by
      intro l
      induction l with
      | nil => intro k; rfl
      | cons r l ih =>
        intro k
        simp only [findI]
        by_cases c : r = b.getD k []
        · simp only [c, if_true]; exact ih (k + 1)
        · simp only [c, if_false] <;> rfl
    rw [key]
    cases findI (fun i r => if r = b.getD i [] then none else some i) 0 a <;> rfl
  · have hlt := len_lt hi
    rw [idx_of hi]
    simp only [Option.bind_some]
    rw [idx_in [] (by omega) (by omega), Option.bind_some, equal_ok (har r (List.mem_of_getElem? hi))]
    simp only [Option.bind_some, Int.toNat_natCast]
    rw [wid (by omega) (by omega)]
    by_cases c : r = b.getD i []
    · rw [decide_eq_true c, if_pos c]; rfl
    · rw [decide_eq_false c, if_neg c]; rfl
theorem refDiffers_ok {a b : Mx} (ha : a.length ≤ 1000000000) (hb : a.length ≤ b.length) (har : ∀ r ∈ a, r.length ≤ 1000000000) (hab : ∀ i, i < a.length → (a.getD i []).length = (b.getD i []).length) : ref04_differs a b = some (match difI a b with
    | some i => (i : Int)
    | none => -1) := by
  unfold ref04_differs difI
  rw [for_find a _ (fun i r => if r = b.getD i [] then none else some (i : Int)) (fun i r hi => ?_), elim_toSum]
  · have key : ∀ (l : Mx) (k : Nat), findI (fun i r => if r = b.getD i [] then none else some (i : Int)) k l = (findI (fun i r => if r = b.getD i [] then none else some i) k l).map fun (i : Nat) => (i : Int) := by
      intro l
      induction l with
      | nil => intro k; rfl
      | cons r l ih =>
        intro k
        simp only [findI]
        by_cases c : r = b.getD k []
        · simp only [c, if_true]; exact ih (k + 1)
        · simp only [c, if_false] <;> rfl
    rw [key]
    cases findI (fun i r => if r = b.getD i [] then none else some i) 0 a <;> rfl
  · have hlt := len_lt hi
    have hrow : a.getD i [] = r := getD_at hi
    have hrl := har r (List.mem_of_getElem? hi)
    have hl2 := hab i hlt
    rw [hrow] at hl2
    rw [idx_of hi]
    simp only [Option.bind_some]
    refine Ok.eq (ok_elim.2 ?_)
    refine (loop_up r.length (fun k (s : Int) => s = (k : Int) ∧ ∀ j, j < k → r.getD j g0 = (b.getD i []).getD j g0)
      (fun x => (x = .inl () ∧ r = b.getD i []) ∨ (x = .inr (.inr (.inr (i : Int))) ∧ r ≠ b.getD i [])) ⟨rfl, by simp⟩ ?_).mono ?_
    · rintro k s hk ⟨rfl, hI⟩
      by_cases hlt2 : k < r.length
      · have e1 : decide ((k : Int) < (r.length : Int)) = true := decide_eq_true (by omega)
        simp only [e1, cond_true]
        rw [idx_in g0 (l := r) (by omega) (by omega)]
        simp only [Option.bind_some, Int.toNat_natCast]
        rw [idx_in [] (l := b) (by omega) (by omega)]
        simp only [Option.bind_some, Int.toNat_natCast]
        rw [idx_in g0 (l := b.getD i []) (by omega) (by omega)]
        simp only [Option.bind_some, Int.toNat_natCast]
        rw [geq_dec, wid (by omega) (by omega)]
        by_cases c : r.getD k g0 = (b.getD i []).getD k g0
        · rw [decide_eq_true c, Bool.not_true, cond_false, rnd_inl]
          refine ⟨hlt2, rfl, fun j hj => ?_⟩
          by_cases hjk : j < k
          · exact hI j hjk
          · have : j = k := by omega
            subst this; exact c
        · rw [decide_eq_false c, Bool.not_false, cond_true, rnd_inr]
          exact .inr ⟨rfl, fun e => c (by rw [← e])⟩
      · have : k = r.length := by omega
        subst this
        have e1 : decide ((r.length : Int) < (r.length : Int)) = false := by simp
        simp only [e1, cond_false]
        rw [rnd_inr]
        exact .inl ⟨rfl, (getD_ext g0).1 ⟨hl2, hI⟩⟩
    · rintro x (⟨rfl, h⟩ | ⟨rfl, h⟩)
      · simp only
        rw [ok_some, wid (by omega) (by omega), if_pos h]; rfl
      · simp only
        rw [if_neg h]; rfl
end Go.Proofs.YtbcdgfgacigaoaaGreat.Mat
end
section
set_option linter.unusedVariables false
set_option linter.unusedSimpArgs false
namespace Go.Proofs.YtbcdgfgacigaoaaGreat.Mat
open Go Go.Ab Go.Tx Go.Proofs.YtbcdgfgacigaoaaGreat
abbrev Qt := Int × Mx × Unit
def denMax : Int := 100000000000
instance (B : Int) (m : Mx) : Decidable (BdM B m) := inferInstanceAs (Decidable (∀ r ∈ m, ∀ z ∈ r, Bd B z))
def qtE (x : Qt) (n : Nat) : Int :=
  if ¬ (1 ≤ x.1 ∧ x.1 ≤ denMax) then 2 else if x.2.1.length ≠ n then 10 else if ¬ (∀ r ∈ x.2.1, r.length = n) then 10
  else if ¬ BdM denMax x.2.1 then 2 else if qg x.1 x.2.1 = 1 then 0 else 3
theorem first2 (a b : Int) : drive_first [a, b] = some (if a = 0 then b else a) := by
  rw [first_eq _ (by simp)]
  by_cases h : a = 0 <;> by_cases h2 : b = 0 <;> simp [fst0, h, h2]
theorem qtErr_ok {x : Qt} {n : Nat} (hl : x.2.1.length ≤ 1000) (hr : ∀ r ∈ x.2.1, r.length ≤ 1000) (hn : n ≤ 1000) : drive_quotientErr x (n : Int) = some (qtE x n) := by
  obtain ⟨den, m, u⟩ := x
  simp only at hl hr
  unfold drive_quotientErr
  simp only
  rw [within_ok]
  simp only [unless_eq, Option.bind_some]
  rw [first2]
  simp only [Option.bind_some]
  have hden : (decide (1 ≤ den ∧ den ≤ 100000000000) = true) ↔ (1 ≤ den ∧ den ≤ denMax) := by simp [denMax]
  -- the shapes
  let e0 : Int := if (if decide (1 ≤ den ∧ den ≤ 100000000000) = true then (0 : Int) else 2) = 0 then (if decide ((m.length : Int) = (n : Int)) = true then 0 else 10) else (if decide (1 ≤ den ∧ den ≤ 100000000000) = true then 0 else 2)
  have hloop : loopO (fun (s6 : (Int × Int)) =>
      bif decide (s6.2 < (m.length : Int)) then
        (idx m s6.2).bind fun x7 =>
        (drive_first ([s6.1, if decide ((x7.length : Int) = (n : Int)) = true then (0 : Int) else 10])).bind fun x9 =>
        some (.inl (x9, w64 (s6.2 + 1)))
      else
        some (.inr s6.1)) (e0, 0) = some (if e0 ≠ 0 then e0 else if ∀ r ∈ m, r.length = n then 0 else 10) := by
    refine Ok.eq (loop_up m.length (fun i (s : Int × Int) => s = (if e0 ≠ 0 then e0 else if ∀ r ∈ m.take i, r.length = n then 0 else 10, (i : Int))) _ ?_ ?_)
    · by_cases h : e0 = 0 <;> simp [h]
    · rintro i s hi rfl
      by_cases hlt : i < m.length
      · have d0 : decide ((i : Int) < (m.length : Int)) = true := decide_eq_true (by omega)
        have hz : m[i]? = some (m.getD i []) := at_getD _ hlt
        simp only [d0, cond_true]
        rw [idx_of hz]
        simp only [Option.bind_some]
        rw [first2]
        simp only [Option.bind_some]
        rw [wid (by omega) (by omega), rnd_inl]
        refine ⟨hlt, ?_⟩
        congr 1
        rw [take_next [] hlt]
        by_cases h : e0 = 0
        · have hc : ¬ e0 ≠ 0 := by simp [h]
          rw [if_neg hc, if_neg hc]
          by_cases ha : ∀ r ∈ m.take i, r.length = n
          · rw [if_pos ha, if_pos rfl]
            by_cases hq : (m.getD i []).length = n
            · rw [decide_eq_true (show ((m.getD i []).length : Int) = (n : Int) by omega), if_pos rfl, if_pos]
              intro r hr'
              rcases List.mem_append.1 hr' with h1 | h1
              · exact ha r h1
              · rw [List.mem_singleton] at h1; rw [h1]; exact hq
            · rw [decide_eq_false (show ¬ ((m.getD i []).length : Int) = (n : Int) by omega), if_neg (by simp), if_neg]
              intro h9
              exact hq (h9 _ (by simp))
          · rw [if_neg ha, if_neg (by omega), if_neg]
            intro h9
            exact ha fun r hr' => h9 r (by simp [hr'])
        · rw [if_pos h, if_pos h, if_neg h]
      · have : i = m.length := by omega
        subst this
        have d0 : decide ((m.length : Int) < (m.length : Int)) = false := by simp
        simp only [d0, cond_false]
        rw [rnd_inr, List.take_length]
  have hgoal : (if (if decide (1 ≤ den ∧ den ≤ 100000000000) = true then (0 : Int) else 2) = 0 then (if decide ((m.length : Int) = (n : Int)) = true then (0 : Int) else 10) else (if decide (1 ≤ den ∧ den ≤ 100000000000) = true then 0 else 2)) = e0 := rfl
  rw [hgoal, hloop]
  simp only [Option.bind_some]
  by_cases c1 : 1 ≤ den ∧ den ≤ denMax
  case neg =>
    have he : e0 = 2 := by
      show (if (if decide (1 ≤ den ∧ den ≤ 100000000000) = true then (0 : Int) else 2) = 0 then _ else _) = _
      rw [if_neg (fun h => c1 (hden.1 h)), if_neg (by omega)]
    have hv : qtE (den, m, u) n = 2 := by unfold qtE; rw [if_pos c1]
    rw [he, if_pos (show (2 : Int) ≠ 0 by omega), hv]
    rfl
  by_cases c2 : m.length = n
  case neg =>
    have he : e0 = 10 := by
      show (if (if decide (1 ≤ den ∧ den ≤ 100000000000) = true then (0 : Int) else 2) = 0 then _ else _) = _
      rw [if_pos (hden.2 c1), if_pos rfl, if_neg (by simp; omega)]
    have hv : qtE (den, m, u) n = 10 := by unfold qtE; rw [if_neg (fun h => h c1), if_pos c2]
    rw [he, if_pos (show (10 : Int) ≠ 0 by omega), hv]
    rfl
  have he : e0 = 0 := by
    show (if (if decide (1 ≤ den ∧ den ≤ 100000000000) = true then (0 : Int) else 2) = 0 then _ else _) = _
    rw [if_pos (hden.2 c1), if_pos rfl, if_pos (by simp; omega)]
  rw [he, if_neg (show ¬ (0 : Int) ≠ 0 by omega)]
  by_cases c3 : ∀ r ∈ m, r.length = n
  case neg =>
    have hv : qtE (den, m, u) n = 10 := by unfold qtE; rw [if_neg (fun h => h c1), if_neg (fun h => h c2), if_pos c3]
    rw [if_neg c3, hv]
    rfl
  have hv : qtE (den, m, u) n = if ¬ BdM denMax m then 2 else if qg den m = 1 then 0 else 3 := by unfold qtE; rw [if_neg (fun h => h c1), if_neg (fun h => h c2), if_neg (fun h => h c3)]
  rw [if_pos c3, hv]
  simp only [decide_true, Bool.not_true, cond_false]
  -- the parts
  have hden1 : den.natAbs ≤ denMax.toNat := by unfold denMax at *; omega
  have hqb : ∀ i, BdM denMax (m.take i) → (qg den (m.take i) : Int) ≤ denMax := fun i h => qg_le (by omega) c1.2 h
  refine Ok.eq (ok_elim.2 ?_)
  refine (loop_up m.length (fun i (s : Int × Int) => s = ((qg den (m.take i) : Int), (i : Int)) ∧ BdM denMax (m.take i))
    (fun r => (r = .inl (qg den m : Int) ∧ BdM denMax m) ∨ (r = .inr 2 ∧ ¬ BdM denMax m)) ⟨by
      have : ((qg den (m.take 0) : Nat) : Int) = den := by simp [qg, partsM, gcdF] <;> omega
      rw [this]; rfl, by intro r hr; simp at hr⟩ ?_).mono ?_
  · rintro i s hi ⟨rfl, hI⟩
    by_cases hlt : i < m.length
    · have d0 : decide ((i : Int) < (m.length : Int)) = true := decide_eq_true (by omega)
      have hz : m[i]? = some (m.getD i []) := at_getD _ hlt
      have hmem := getD_mem (d := ([] : List G)) hlt
      have hrl := hr _ hmem
      simp only [d0, cond_true]
      rw [idx_of hz]
      simp only [Option.bind_some]
      generalize hrow : m.getD i [] = r at *
      rw [rnd_elim]
      have hq := hqb i hI
      refine (loop_up r.length (fun k (s : Int × Int) => s = ((gcdF (qg den (m.take i)) (parts (r.take k)) : Int), (k : Int)) ∧ ∀ z ∈ r.take k, Bd denMax z)
        (fun x => (x = .inl (gcdF (qg den (m.take i)) (parts r) : Int) ∧ ∀ z ∈ r, Bd denMax z) ∨ (x = .inr (.inr (.inr 2)) ∧ ¬ ∀ z ∈ r, Bd denMax z)) ⟨rfl, by simp⟩ ?_).mono ?_
      · rintro k s hk ⟨rfl, hK⟩
        by_cases hlt2 : k < r.length
        · have d1 : decide ((k : Int) < (r.length : Int)) = true := decide_eq_true (by omega)
          have hz2 : r[k]? = some (r.getD k g0) := at_getD _ hlt2
          simp only [d1, cond_true]
          rw [idx_of hz2]
          simp only [Option.bind_some]
          rw [whole_isSized_ok _ _ (by omega) (by omega)]
          simp only [Option.bind_some]
          by_cases hb : Bd 100000000000 (r.getD k g0)
          · rw [decide_eq_true hb, Bool.not_true, cond_false]
            have hgb : gcdF (qg den (m.take i)) (parts (r.take k)) ≤ denMax.toNat := gcdF_le (by unfold denMax at *; omega) fun x hx => by
              have := parts_bd hK hx
              unfold denMax at *; omega
            have hb' := hb
            unfold Bd at hb
            rw [divisor_ok _ (by simp) (by
              intro x hx
              unfold denMax at *
              simp only [List.mem_cons, List.not_mem_nil, or_false] at hx
              rcases hx with rfl | rfl | rfl <;> omega)]
            simp only [Option.bind_some]
            rw [wid (by omega) (by omega), rnd_inl]
            refine ⟨hlt2, ?_, fun z hz3 => ?_⟩
            · congr 2
              rw [take_next g0 hlt2, parts_app, gcdF_snoc, gcdF_snoc, gcdL_three]
              rfl
            · rw [take_next g0 hlt2] at hz3
              rcases List.mem_append.1 hz3 with h1 | h1
              · exact hK z h1
              · rw [List.mem_singleton] at h1; rw [h1]; exact hb'
          · rw [decide_eq_false hb, Bool.not_false, cond_true, rnd_inr]
            exact .inr ⟨rfl, fun h => hb (h _ (getD_mem hlt2))⟩
        · have : k = r.length := by omega
          subst this
          have d1 : decide ((r.length : Int) < (r.length : Int)) = false := by simp
          simp only [d1, cond_false]
          rw [rnd_inr]
          rw [List.take_length] at hK ⊢
          exact .inl ⟨rfl, hK⟩
      · rintro x (⟨rfl, h⟩ | ⟨rfl, h⟩)
        · simp only
          rw [wid (by omega) (by omega), rnd_inl]
          have e : m.take (i + 1) = m.take i ++ [r] := by rw [take_next [] hlt, hrow]
          refine ⟨hlt, ?_, ?_⟩
          · rw [e]; unfold qg; rw [partsM_app, gcdF_app]; rfl
          · rw [e]
            intro q hq2
            rcases List.mem_append.1 hq2 with h1 | h1
            · exact hI q h1
            · rw [List.mem_singleton] at h1; rw [h1]; exact h
        · simp only
          exact .inr ⟨(by trivial), fun hh => h (hh r hmem)⟩
    · have : i = m.length := by omega
      subst this
      have d0 : decide ((m.length : Int) < (m.length : Int)) = false := by simp
      simp only [d0, cond_false]
      rw [rnd_inr]
      rw [List.take_length] at hI ⊢
      exact .inl ⟨rfl, hI⟩
  · rintro x (⟨rfl, h⟩ | ⟨rfl, h⟩)
    · simp only
      rw [if_neg (show ¬ ¬ BdM denMax m from fun hh => hh h)]
      by_cases hq : qg den m = 1
      · rw [if_pos hq, decide_eq_true (show (qg den m : Int) = 1 by omega)]; exact ok_some.2 rfl
      · rw [if_neg hq, decide_eq_false (show ¬ (qg den m : Int) = 1 by omega)]; exact ok_some.2 rfl
    · simp only
      rw [if_pos h]
theorem refQtErr_ok {x : Qt} {n : Nat} (hl : x.2.1.length ≤ 1000) (hr : ∀ r ∈ x.2.1, r.length ≤ 1000) (hn : n ≤ 1000) : ref04_QuotientErr x (n : Int) = some (qtE x n) := by
  obtain ⟨den, m, u⟩ := x
  simp only at hl hr
  unfold ref04_QuotientErr qtE
  simp only
  rw [Within_ok]
  simp only [Option.bind_some]
  by_cases c1 : 1 ≤ den ∧ den ≤ denMax
  case neg =>
    rw [decide_eq_false (show ¬ (1 ≤ den ∧ den ≤ 100000000000) from c1), if_pos c1]; rfl
  rw [decide_eq_true (show (1 ≤ den ∧ den ≤ 100000000000) from c1), if_neg (by simpa using c1)]
  simp only [Bool.not_true, cond_false]
  by_cases c2 : m.length = n
  case neg =>
    rw [decide_eq_false (show ¬ (m.length : Int) = (n : Int) by omega), if_pos c2]; rfl
  subst c2
  rw [if_neg (by simp), decide_eq_true rfl]
  simp only [Bool.not_true, cond_false]
  rw [for_find m _ (fun _ r => if r.length = m.length then none else some (10 : Int)) (fun i r hi => ?_), elim_toSum]
  rotate_left
  · have hlt := len_lt hi
    rw [idx_of hi]
    simp only [Option.bind_some]
    rw [wid (by omega) (by omega)]
    by_cases c : r.length = m.length
    · rw [decide_eq_true (show (r.length : Int) = (m.length : Int) by omega), if_pos c]; rfl
    · rw [decide_eq_false (show ¬ (r.length : Int) = (m.length : Int) by omega), if_neg c]; rfl
  cases hf : findI (fun _ (r : List G) => if r.length = m.length then none else some (10 : Int)) 0 m with
  | some e =>
    obtain ⟨i, r, h1, h2, _⟩ := findI_some hf
    have hne : ¬ ∀ r ∈ m, r.length = m.length := fun h => by
      rw [if_pos (h r (List.mem_of_getElem? h1))] at h2; cases h2
    have he : e = 10 := by
      split at h2
      · cases h2
      · cases h2; rfl
    rw [if_pos hne, he]
  | none =>
    rw [findI_none] at hf
    have c3 : ∀ r ∈ m, r.length = m.length := fun r hr' => by
      obtain ⟨i, hi⟩ := List.mem_iff_getElem?.1 hr'
      have := hf i r hi
      by_cases c : r.length = m.length
      · exact c
      · rw [if_neg c] at this; cases this
    rw [if_neg (by simpa using c3)]
    simp only
    have hqb : ∀ i, BdM denMax (m.take i) → (qg den (m.take i) : Int) ≤ denMax := fun i h => qg_le (by omega) c1.2 h
    refine Ok.eq (ok_elim.2 ?_)
    refine (loop_up m.length (fun i (s : Int × Int) => s = ((qg den (m.take i) : Int), (i : Int)) ∧ BdM denMax (m.take i))
      (fun r => (r = .inl (qg den m : Int) ∧ BdM denMax m) ∨ (r = .inr 2 ∧ ¬ BdM denMax m)) ⟨by
        have : ((qg den (m.take 0) : Nat) : Int) = den := by simp [qg, partsM, gcdF] <;> omega
        rw [this]; rfl, by intro r hr; simp at hr⟩ ?_).mono ?_
    · rintro i s hi ⟨rfl, hI⟩
      by_cases hlt : i < m.length
      · have d0 : decide ((i : Int) < (m.length : Int)) = true := decide_eq_true (by omega)
        have hz : m[i]? = some (m.getD i []) := at_getD _ hlt
        have hmem := getD_mem (d := ([] : List G)) hlt
        have hrl := c3 _ hmem
        simp only [d0, cond_true]
        generalize hrow : m.getD i [] = r at *
        rw [rnd_elim]
        have hq := hqb i hI
        refine (loop_up m.length (fun k (s : Int × Int) => s = ((gcdF (qg den (m.take i)) (parts (r.take k)) : Int), (k : Int)) ∧ ∀ z ∈ r.take k, Bd denMax z)
          (fun x => (x = .inl (gcdF (qg den (m.take i)) (parts r) : Int) ∧ ∀ z ∈ r, Bd denMax z) ∨ (x = .inr (.inr (.inr 2)) ∧ ¬ ∀ z ∈ r, Bd denMax z)) ⟨rfl, by simp⟩ ?_).mono ?_
        · rintro k s hk ⟨rfl, hK⟩
          by_cases hlt2 : k < m.length
          · have d1 : decide ((k : Int) < (m.length : Int)) = true := decide_eq_true (by omega)
            have hz2 : r[k]? = some (r.getD k g0) := at_getD _ (by omega)
            simp only [d1, cond_true]
            rw [idx_of hz]
            simp only [Option.bind_some]
            rw [idx_of hz2]
            simp only [Option.bind_some]
            rw [refIsSized_ok _ _ (by omega) (by omega)]
            simp only [Option.bind_some]
            by_cases hb : Bd 100000000000 (r.getD k g0)
            · rw [decide_eq_true hb, Bool.not_true, cond_false]
              have hgb : gcdF (qg den (m.take i)) (parts (r.take k)) ≤ denMax.toNat := gcdF_le (by unfold denMax at *; omega) fun x hx => by
                have := parts_bd hK hx
                unfold denMax at *; omega
              have hb' := hb
              unfold Bd at hb
              unfold denMax at hgb
              rw [Gcd_ok (by omega) (by omega)]
              simp only [Option.bind_some]
              have hg2 : Int.gcd (r.getD k g0).1 (r.getD k g0).2.1 ≤ 100000000000 := gcd_le (by omega) (by omega)
              rw [Gcd_ok (by omega) (by omega)]
              simp only [Option.bind_some]
              rw [wid (by omega) (by omega), rnd_inl]
              refine ⟨hlt2, ?_, fun z hz3 => ?_⟩
              · congr 2
                rw [take_next g0 (by omega), parts_app, gcdF_snoc, gcdF_snoc, gcd_two]
              · rw [take_next g0 (by omega)] at hz3
                rcases List.mem_append.1 hz3 with h1 | h1
                · exact hK z h1
                · rw [List.mem_singleton] at h1; rw [h1]; exact hb'
            · rw [decide_eq_false hb, Bool.not_false, cond_true, rnd_inr]
              exact .inr ⟨rfl, fun h => hb (h _ (getD_mem (by omega)))⟩
          · have : k = m.length := by omega
            subst this
            have d1 : decide ((m.length : Int) < (m.length : Int)) = false := by simp
            simp only [d1, cond_false]
            rw [rnd_inr]
            rw [show r.take m.length = r from List.take_of_length_le (by omega)] at hK ⊢
            exact .inl ⟨rfl, hK⟩
        · rintro x (⟨rfl, h⟩ | ⟨rfl, h⟩)
          · simp only
            rw [wid (by omega) (by omega), rnd_inl]
            have e : m.take (i + 1) = m.take i ++ [r] := by rw [take_next [] hlt, hrow]
            refine ⟨hlt, ?_, ?_⟩
            · rw [e]; unfold qg; rw [partsM_app, gcdF_app]; rfl
            · rw [e]
              intro q hq2
              rcases List.mem_append.1 hq2 with h1 | h1
              · exact hI q h1
              · rw [List.mem_singleton] at h1; rw [h1]; exact h
          · simp only
            exact .inr ⟨(by trivial), fun hh => h (hh r hmem)⟩
      · have : i = m.length := by omega
        subst this
        have d0 : decide ((m.length : Int) < (m.length : Int)) = false := by simp
        simp only [d0, cond_false]
        rw [rnd_inr]
        rw [List.take_length] at hI ⊢
        exact .inl ⟨rfl, hI⟩
    · rintro x (⟨rfl, h⟩ | ⟨rfl, h⟩)
      · simp only
        rw [if_neg (show ¬ ¬ BdM denMax m from fun hh => hh h)]
        by_cases hq : qg den m = 1
        · rw [if_pos hq, decide_eq_true (show (qg den m : Int) = 1 by omega)]; exact ok_some.2 rfl
        · rw [if_neg hq, decide_eq_false (show ¬ (qg den m : Int) = 1 by omega)]; exact ok_some.2 rfl
      · simp only
        rw [if_pos h]
end Go.Proofs.YtbcdgfgacigaoaaGreat.Mat
end
section
set_option linter.unusedVariables false
set_option linter.unusedSimpArgs false
namespace Go.Proofs.YtbcdgfgacigaoaaGreat.Mat
open Go Go.Ab Go.Tx Go.Proofs.YtbcdgfgacigaoaaGreat
theorem dC_le {B : Int} (hB : 0 ≤ B) (h20 : B ≤ 20) : ∀ n, n ≤ 3 → dC B n ≤ 192000 ∧ (n ≤ 2 → dC B n ≤ 1600) := fun n hn => by
  have h1 : B * B ≤ 20 * 20 := Int.mul_le_mul h20 h20 hB (by omega)
  have h2 : B * (2 * (2 * (B * B))) ≤ 20 * (2 * (2 * (20 * 20))) := Int.mul_le_mul h20 (by omega) (by have := Int.mul_nonneg hB hB; omega) (by omega)
  match n, hn with
  | 0, _ => simp [dC]
  | 1, _ => simp only [dC] <;> omega
  | 2, _ => simp only [dC] <;> omega
  | 3, _ =>
    have e : dC B 3 = 3 * (2 * (B * (2 * (2 * (B * B))))) := rfl
    rw [e]; omega
theorem dB20 : ∀ n, n ≤ 3 → dB 20 n ≤ 9000000000000000000 := fun n hn => by
  match n, hn with
  | 0, _ => decide
  | 1, _ => decide
  | 2, _ => decide
  | 3, _ => decide
def detM (m : Mx) : G := detF m.length (ent m)
theorem det20 {n : Nat} {f : Nat → Nat → G} (hn : n ≤ 3) (h : BdF 20 n n f) : Bd 192000 (detF n f) := (detF_bdC (by omega) n f h).mono (dC_le (by omega) (by omega) n hn).1
theorem norm_le {D : Int} {d : G} (h : Bd D d) : norm d ≤ 2 * (D * D) := by
  have := (abs_mul_le h.1 h.1).2
  have := (abs_mul_le h.2 h.2).2
  unfold norm; omega
theorem invB20 {n : Nat} {f : Nat → Nat → G} (hn : n + 1 ≤ 3) (h : BdF 20 (n + 1) (n + 1) f) (hz : detF (n + 1) f ≠ g0) : InvB n f (detF (n + 1) f) 20 1600 192000 73728000000 where
  hB := by omega
  hf := h
  crude := dB20 n (by omega)
  minor := fun i k hi hk => (detF_bdC (by omega) n _ (minor_bd h)).mono ((dC_le (by omega) (by omega) n (by omega)).2 (by omega))
  hd := det20 hn h
  md := by omega
  dd := by omega
  hQ := by omega
  M0 := by omega
  D0 := by omega
  nq := norm_le (det20 hn h)
  nz := hz
def invM (m : Mx) : Qt := quotQ m.length m.length (invT (m.length - 1) (ent m) (detM m)) (norm (detM m))
def invE (m : Mx) : Int := if matE m ≠ 0 then matE m else if detM m = g0 then 11 else 0
def noQ : Qt := (0, [], ())
theorem mat_shape {m : Mx} (h : matE m = 0) : ∃ n, m.length = n + 1 ∧ n + 1 ≤ 3 ∧ m = mx (n + 1) (n + 1) (ent m) ∧ BdF 20 (n + 1) (n + 1) (ent m) := by
  obtain ⟨h1, h3, hR, hB⟩ := mat_ok h
  refine ⟨m.length - 1, by omega, by omega, ?_, ?_⟩
  · have e : m.length - 1 + 1 = m.length := by omega
    rw [e]; exact rect_mx hR
  · have e : m.length - 1 + 1 = m.length := by omega
    rw [e]; exact bdM_ent hB hR
theorem detM_ok {m : Mx} (h : matE m = 0) : drive_matrix_determinant m = some (detM m) := by
  obtain ⟨n, hl, h3, hm, hB⟩ := mat_shape h
  unfold detM
  rw [hl]
  conv => lhs; rw [hm]
  exact det12 (by omega) (by omega) hB (dB20 _ h3)
theorem InverseOf_ok {m : Mx} (h : m.length ≤ 1000000000) (hr : ∀ r ∈ m, r.length ≤ 1000000000) : drive_InverseOf m = some (if invE m = 0 then invM m else noQ, invE m) := by
  unfold drive_InverseOf
  rw [matrixErr_ok h hr]
  simp only [Option.bind_some]
  unfold invE
  by_cases hE : matE m = 0
  case neg =>
    rw [if_pos hE, decide_eq_false hE, Bool.not_false, cond_true, if_neg hE]; rfl
  rw [if_neg (show ¬ matE m ≠ 0 from fun hh => hh hE), decide_eq_true hE, Bool.not_true, cond_false, detM_ok hE]
  simp only [Option.bind_some]
  have hgz : (bif decide ((detM m).1 = 0) then (bif decide ((detM m).2.1 = 0) then true else false) else false) = decide (detM m = g0) := geq_dec (detM m) g0
  rw [hgz]
  by_cases hz : detM m = g0
  · rw [decide_eq_true hz, cond_true, if_pos hz]; rfl
  · rw [decide_eq_false hz, cond_false, if_neg hz, if_pos rfl]
    obtain ⟨n, hl, h3, hm, hB⟩ := mat_shape hE
    have hd : detM m = detF (n + 1) (ent m) := by unfold detM; rw [hl]
    have hz' : detF (n + 1) (ent m) ≠ g0 := by rw [← hd]; exact hz
    have := inverse_ok (by omega) (invB20 h3 hB hz')
    rw [← hm, ← hd] at this
    rw [this]
    unfold invM
    rw [hl, show n + 1 - 1 = n by omega]
    rfl
theorem inv_ok {m : Mx} (h : invE m = 0) : matE m = 0 ∧ detM m ≠ g0 := by
  unfold invE at h
  by_cases hE : matE m = 0
  · rw [if_neg (show ¬ matE m ≠ 0 from fun hh => hh hE)] at h
    by_cases hz : detM m = g0
    · rw [if_pos hz] at h; cases h
    · exact ⟨hE, hz⟩
  · rw [if_pos hE] at h; exact absurd h hE
def invF (m : Mx) : Nat → Nat → G := quotF (qg (norm (detM m)) (mx m.length m.length (invT (m.length - 1) (ent m) (detM m)))) (invT (m.length - 1) (ent m) (detM m))
def invD (m : Mx) : Int := (norm (detM m)).tdiv (qg (norm (detM m)) (mx m.length m.length (invT (m.length - 1) (ent m) (detM m))))
theorem invM_eq (m : Mx) : invM m = (invD m, mx m.length m.length (invF m), ()) := rfl
theorem invT_bd {m : Mx} (h : invE m = 0) : BdF 614400000 m.length m.length (invT (m.length - 1) (ent m) (detM m)) := by
  obtain ⟨hE, hz⟩ := inv_ok h
  obtain ⟨n, hl, h3, hm, hB⟩ := mat_shape hE
  have hd : detM m = detF (n + 1) (ent m) := by unfold detM; rw [hl]
  have hz' : detF (n + 1) (ent m) ≠ g0 := by rw [← hd]; exact hz
  rw [hd, hl, show n + 1 - 1 = n by omega]
  have hI := invB20 h3 hB hz'
  intro i k hi hk
  exact ((hI.adj hi hk).mul hI.hd.conj).mono (by omega)
theorem invF_bd {m : Mx} (h : invE m = 0) : BdF 614400000 m.length m.length (invF m) := fun i k hi hk => by
  have hb := invT_bd h i k hi hk
  exact ⟨tdiv_bd hb.1, tdiv_bd hb.2⟩
theorem invD_bd {m : Mx} (h : invE m = 0) : 0 ≤ invD m ∧ invD m ≤ 73728000000 := by
  obtain ⟨hE, hz⟩ := inv_ok h
  obtain ⟨n, hl, h3, hm, hB⟩ := mat_shape hE
  have hd : detM m = detF (n + 1) (ent m) := by unfold detM; rw [hl]
  have hn := norm_pos hz
  have hb := norm_le (det20 h3 hB)
  rw [← hd] at hb
  unfold invD
  have := tdiv_bd (x := norm (detM m)) (g := (qg (norm (detM m)) (mx m.length m.length (invT (m.length - 1) (ent m) (detM m))) : Int)) (B := 73728000000) (by omega)
  exact ⟨Int.tdiv_nonneg (by omega) (Int.natCast_nonneg _), this.2⟩
theorem tdiv_zero_of {x g : Int} (hd : g ∣ x) (h : x.tdiv g = 0) : x = 0 := by
  have := Int.mul_tdiv_cancel' hd
  rw [h] at this; omega
theorem rsum_pos {m : Mx} (h : invE m = 0) : 0 < rsum m.length m.length (invF m) := by
  obtain ⟨hE, hz⟩ := inv_ok h
  obtain ⟨n, hl, h3, hm, hB⟩ := mat_shape hE
  -- not all entries are 0: else the determinant of the product is 0
  have hne : ∃ i k, i < m.length ∧ k < m.length ∧ invF m i k ≠ g0 := by
    false_or_by_contra
    rename_i hall
    have hT : ∀ i k, i < m.length → k < m.length → invT (m.length - 1) (ent m) (detM m) i k = g0 := fun i k hi hk => by
      have h1 : invF m i k = g0 := by
        false_or_by_contra
        rename_i h2
        exact hall ⟨i, k, hi, hk, h2⟩
      have hmem : ∀ x, x ∈ partsM (mx m.length m.length (invT (m.length - 1) (ent m) (detM m))) → ((qg (norm (detM m)) (mx m.length m.length (invT (m.length - 1) (ent m) (detM m))) : Nat) : Int) ∣ x := fun x hx => by unfold qg; exact gcdF_dvd hx
      have hin : ∀ x, x = (invT (m.length - 1) (ent m) (detM m) i k).1 ∨ x = (invT (m.length - 1) (ent m) (detM m) i k).2.1 → x ∈ partsM (mx m.length m.length (invT (m.length - 1) (ent m) (detM m))) := fun x hx => by
        unfold partsM
        refine List.mem_flatMap.2 ⟨mkL m.length fun k => invT (m.length - 1) (ent m) (detM m) i k, mem_mkL (f := fun i => mkL m.length fun k => invT (m.length - 1) (ent m) (detM m) i k) hi, ?_⟩
        unfold parts
        refine List.mem_flatMap.2 ⟨_, mem_mkL (f := fun k => invT (m.length - 1) (ent m) (detM m) i k) hk, ?_⟩
        rcases hx with rfl | rfl <;> simp
      unfold invF quotF at h1
      have e1 := congrArg (fun z : G => z.1) h1
      have e2 := congrArg (fun z : G => z.2.1) h1
      simp only at e1 e2
      exact gext (tdiv_zero_of (hmem _ (hin _ (.inl rfl))) e1) (tdiv_zero_of (hmem _ (hin _ (.inr rfl))) e2)
    -- row 0: sum of entries times cofactors
    have hadj : ∀ i k, i < m.length → k < m.length → adjF (m.length - 1) (ent m) i k = g0 := fun i k hi hk => by
      have h1 := hT i k hi hk
      unfold invT at h1
      have h2 : gmul (gmul (adjF (m.length - 1) (ent m) i k) (gconj (detM m))) (detM m) = g0 := by rw [h1]; exact gzero_mul _
      rw [gmul_assoc, gmul_comm (gconj _), norm_mul] at h2
      have hn := norm_pos hz
      have e1 := congrArg (fun z : G => z.1) h2
      have e2 := congrArg (fun z : G => z.2.1) h2
      simp only [gmul, g0, Int.mul_zero, Int.sub_zero, Int.zero_add, Int.add_zero] at e1 e2
      refine gext ?_ ?_
      · rcases Int.mul_eq_zero.1 e1 with h9 | h9
        · exact h9
        · omega
      · rcases Int.mul_eq_zero.1 e2 with h9 | h9
        · exact h9
        · omega
    apply hz
    unfold detM
    rw [hl]
    rw [hl, show n + 1 - 1 = n by omega] at hadj
    simp only [detF]
    have : sumG (n + 1) (fun k => if k % 2 = 1 then gneg (gmul (ent m 0 k) (detF n (minor (ent m) 0 k))) else gmul (ent m 0 k) (detF n (minor (ent m) 0 k))) = sumG (n + 1) fun _ => g0 := by
      refine sumG_congr fun k hk => ?_
      have h1 := hadj k 0 hk (by omega)
      unfold adjF cofF at h1
      have h2 : detF n (minor (ent m) 0 k) = g0 := by
        split at h1
        · have e1 := congrArg (fun z : G => z.1) h1
          have e2 := congrArg (fun z : G => z.2.1) h1
          simp only [gneg, g0] at e1 e2
          exact gext (by simp only [g0]; omega) (by simp only [g0]; omega)
        · exact h1
      rw [h2, gmul_zero]
      split <;> rfl
    rw [this]
    have hs : ∀ n, sumG n (fun _ => g0) = g0 := fun n => by
      induction n with
      | zero => rfl
      | succ n ih => simp only [sumG, ih] <;> rfl
    exact hs _
  obtain ⟨i, k, hi, hk, h1⟩ := hne
  have hg : 0 < gsize (invF m i k) := by
    unfold gsize
    by_cases h2 : (invF m i k).1 = 0
    · by_cases h3 : (invF m i k).2.1 = 0
      · exact absurd (gext h2 h3) h1
      · omega
    · omega
  have hs : ∀ (f : Nat → Int) n k, (∀ j, 0 ≤ f j) → k < n → f k ≤ sumZ n f := by
    intro f n
    induction n with
    | zero => intro k _ h; omega
    | succ n ih =>
      intro k h0 hk
      simp only [sumZ]
      have hnn : 0 ≤ sumZ n f := by
        clear ih hk
        induction n with
        | zero => simp [sumZ]
        | succ n ih => simp only [sumZ]; have := h0 n; omega
      by_cases hkn : k = n
      · subst hkn; omega
      · have := ih k h0 (by omega); have := h0 n; omega
  have hx : ∀ (f : Nat → Int) n k, k < n → f k ≤ maxZ n f := by
    intro f n
    induction n with
    | zero => intro k h; omega
    | succ n ih =>
      intro k hk
      simp only [maxZ]
      by_cases hkn : k = n
      · subst hkn; omega
      · have := ih k (by omega); omega
  have h2 := hs (fun k => gsize (invF m i k)) m.length k (fun j => by unfold gsize; omega) hk
  have h3 := hx (fun i => sumZ m.length fun k => gsize (invF m i k)) m.length i hi
  unfold rsum
  omega
def sureM (m : Mx) : Int := (invD m - 1).tdiv (2 * (m.length : Int) * rsum m.length m.length (invF m))
theorem rsum_le {m : Mx} (h : invE m = 0) : rsum m.length m.length (invF m) ≤ 3686400000 := by
  obtain ⟨hE, hz⟩ := inv_ok h
  obtain ⟨h1, h3, _, _⟩ := mat_ok hE
  unfold rsum
  refine (maxZ_bd (by omega) fun i hi => ?_).2
  have := (sumZ_bd (n := m.length) (f := fun k => gsize (invF m i k)) fun k hk => gsize_bd (invF_bd h i k hi hk)).2
  have h4 : (m.length : Int) * (2 * 614400000) ≤ 3 * (2 * 614400000) := Int.mul_le_mul_of_nonneg_right (by omega) (by omega)
  omega
theorem SureError_ok {m : Mx} (h : m.length ≤ 1000000000) (hr : ∀ r ∈ m, r.length ≤ 1000000000) : drive_SureError m = some (if invE m = 0 then sureM m else 0, invE m) := by
  unfold drive_SureError
  rw [InverseOf_ok h hr]
  simp only [Option.bind_some]
  by_cases hE : invE m = 0
  case neg => rw [decide_eq_false hE, Bool.not_false, cond_true, if_neg hE]
  rw [decide_eq_true hE, Bool.not_true, cond_false, if_pos hE, if_pos hE, invM_eq]
  obtain ⟨hEm, hz⟩ := inv_ok hE
  obtain ⟨h1, h3, _, _⟩ := mat_ok hEm
  simp only
  rw [rowSum_ok (by omega) (invF_bd hE) (by omega) (by omega) (by omega) (by omega)]
  simp only [Option.bind_some]
  have hp := rsum_pos hE
  have hle := rsum_le hE
  have hD := invD_bd hE
  unfold sureM
  generalize rsum m.length m.length (invF m) = R at *
  have hm3 : 0 ≤ 2 * (m.length : Int) * R ∧ 2 * (m.length : Int) * R ≤ 6 * 3686400000 := ⟨Int.mul_nonneg (by omega) (by omega), Int.mul_le_mul (by omega) hle (by omega) (by omega)⟩
  have hne : 2 * (m.length : Int) * R ≠ 0 := fun e => by
    rcases Int.mul_eq_zero.1 e with h9 | h9 <;> omega
  rw [wid (n := 2 * (m.length : Int)) (by omega) (by omega), wid (n := 2 * (m.length : Int) * R) (by omega) (by omega), decide_eq_false hne, cond_false, wid (n := invD m - 1) (by omega) (by omega)]
  have ht := tdiv_bd (x := invD m - 1) (g := 2 * (m.length : Int) * R) (B := 73728000000) (by omega)
  rw [wid (by omega) (by omega), hE]
def chkInv (m : Mx) (x : Qt) : Int × Int := if matE m ≠ 0 then (0, matE m) else if qtE x m.length ≠ 0 then (0, qtE x m.length) else
  match difI (mx m.length m.length (prodF m.length (ent m) (ent x.2.1))) (mx m.length m.length (diagF x.1)) with
  | some i => ((i : Int), 19)
  | none => (0, 0)
theorem qt_ok {x : Qt} {n : Nat} (h : qtE x n = 0) : (1 ≤ x.1 ∧ x.1 ≤ denMax) ∧ Rect n n x.2.1 ∧ BdM denMax x.2.1 ∧ qg x.1 x.2.1 = 1 := by
  unfold qtE at h
  by_cases c1 : 1 ≤ x.1 ∧ x.1 ≤ denMax
  · rw [if_neg (fun h => h c1)] at h
    by_cases c2 : x.2.1.length = n
    · rw [if_neg (fun h => h c2)] at h
      by_cases c3 : ∀ r ∈ x.2.1, r.length = n
      · rw [if_neg (fun h => h c3)] at h
        by_cases c4 : BdM denMax x.2.1
        · rw [if_neg (fun h => h c4)] at h
          by_cases c5 : qg x.1 x.2.1 = 1
          · exact ⟨c1, ⟨c2, c3⟩, c4, c5⟩
          · rw [if_neg c5] at h; cases h
        · rw [if_pos c4] at h; cases h
      · rw [if_pos c3] at h; cases h
    · rw [if_pos c2] at h; cases h
  · rw [if_pos c1] at h; cases h
theorem CheckInverse_ok {m : Mx} {x : Qt} (h : m.length ≤ 1000000000) (hr : ∀ r ∈ m, r.length ≤ 1000000000) (hl : x.2.1.length ≤ 1000) (hxr : ∀ r ∈ x.2.1, r.length ≤ 1000) : drive_CheckInverse m x = some (chkInv m x) := by
  unfold drive_CheckInverse chkInv
  rw [matrixErr_ok h hr]
  simp only [Option.bind_some]
  by_cases hE : matE m = 0
  case neg => rw [decide_eq_false hE, Bool.not_false, cond_true, if_pos hE]
  rw [decide_eq_true hE, Bool.not_true, cond_false, if_neg (show ¬ matE m ≠ 0 from fun hh => hh hE)]
  obtain ⟨n, hn, h3, hm, hB⟩ := mat_shape hE
  rw [qtErr_ok hl hxr (by omega)]
  simp only [Option.bind_some]
  by_cases hq : qtE x m.length = 0
  case neg => rw [decide_eq_false hq, Bool.not_false, cond_true, if_pos hq]
  rw [decide_eq_true hq, Bool.not_true, cond_false, if_neg (show ¬ qtE x m.length ≠ 0 from fun hh => hh hq)]
  obtain ⟨hd, hR, hxB, _⟩ := qt_ok hq
  have hx := rect_mx hR
  have hxb := bdM_ent hxB hR
  rw [hn] at hx hxb ⊢
  have htimes := times_ok (A := 20) (B := denMax) (by omega) (by unfold denMax; omega) hB hxb (by omega) (by omega) (by omega) (by omega) (by unfold denMax; omega)
  rw [← hm, ← hx] at htimes
  rw [htimes, unit_ok (by omega)]
  simp only [Option.bind_some]
  rw [unit_scaled_ok (by omega) (by omega) (by unfold denMax at hd; omega)]
  simp only [Option.bind_some]
  rw [differs_ok (by rw [mx_len]; omega) (by rw [mx_len, mx_len]; omega) (fun r hr => by rw [(mx_rect _ _ _).2 r hr]; omega)]
  simp only [Option.bind_some]
  cases difI (mx (n + 1) (n + 1) (prodF (n + 1) (ent m) (ent x.2.1))) (mx (n + 1) (n + 1) (diagF x.1)) <;> rfl
theorem refCheckInverse_ok {m : Mx} {x : Qt} (h : m.length ≤ 1000000000) (hr : ∀ r ∈ m, r.length ≤ 1000000000) (hl : x.2.1.length ≤ 1000) (hxr : ∀ r ∈ x.2.1, r.length ≤ 1000) : ref04_CheckInverse m x = some (chkInv m x) := by
  unfold ref04_CheckInverse chkInv
  rw [MatrixErr_ok h hr]
  simp only [Option.bind_some]
  by_cases hE : matE m = 0
  case neg => rw [decide_eq_false hE, Bool.not_false, cond_true, if_pos hE]
  rw [decide_eq_true hE, Bool.not_true, cond_false, if_neg (show ¬ matE m ≠ 0 from fun hh => hh hE)]
  obtain ⟨n, hn, h3, hm, hB⟩ := mat_shape hE
  rw [refQtErr_ok hl hxr (by omega)]
  simp only [Option.bind_some]
  by_cases hq : qtE x m.length = 0
  case neg => rw [decide_eq_false hq, Bool.not_false, cond_true, if_pos hq]
  rw [decide_eq_true hq, Bool.not_true, cond_false, if_neg (show ¬ qtE x m.length ≠ 0 from fun hh => hh hq)]
  obtain ⟨hd, hR, hxB, _⟩ := qt_ok hq
  have hx := rect_mx hR
  have hxb := bdM_ent hxB hR
  rw [hn] at hx hxb ⊢
  have htimes := Product_ok (A := 20) (B := denMax) (by omega) (by unfold denMax; omega) hB hxb (by omega) (by omega) (by omega) (by omega) (by unfold denMax; omega)
  rw [← hm, ← hx] at htimes
  rw [htimes, one_ok (by omega)]
  simp only [Option.bind_some]
  rw [refDiffers_ok (by rw [mx_len]; omega) (by rw [mx_len, mx_len]; omega) (fun r hr => by rw [(mx_rect _ _ _).2 r hr]; omega) (fun i hi => by rw [mx_len] at hi; rw [mx_row _ hi, mx_row _ hi, mkL_len, mkL_len])]
  simp only [Option.bind_some]
  cases difI (mx (n + 1) (n + 1) (prodF (n + 1) (ent m) (ent x.2.1))) (mx (n + 1) (n + 1) (diagF x.1)) with
  | none => rfl
  | some i =>
    simp only
    rw [decide_eq_true (show (i : Int) ≥ 0 by omega)]; rfl
theorem SameQuotient_ok {x y : Qt} (hl : x.2.1.length ≤ 1000000000) (hr : ∀ r ∈ x.2.1, r.length ≤ 1000000000) : ref04_SameQuotient x y = some (decide (x = y)) := by
  unfold ref04_SameQuotient
  rw [SameMatrix_ok hl hr]
  obtain ⟨a, m, _⟩ := x
  obtain ⟨b, n, _⟩ := y
  simp only [Option.bind_some]
  by_cases h1 : a = b
  · by_cases h2 : m = n
    · simp [h1, h2]
    · simp [h1, h2]
  · simp [h1]
theorem CopyQuotient_ok {x : Qt} (hl : x.2.1.length ≤ 1000000000) (hr : ∀ r ∈ x.2.1, r.length ≤ 1000000000) : ref04_CopyQuotient x = some x := by
  unfold ref04_CopyQuotient
  rw [CopyMatrix_ok hl hr]; rfl
theorem inv_shape (m : Mx) : (invM m).2.1.length = m.length ∧ ∀ r ∈ (invM m).2.1, r.length = m.length := by
  rw [invM_eq]
  exact ⟨mx_len _ _ _, (mx_rect _ _ _).2⟩
end Go.Proofs.YtbcdgfgacigaoaaGreat.Mat
namespace Go.Proofs.YtbcdgfgacigaoaaGreat
open Go Go.Ab Go.Tx
end Go.Proofs.YtbcdgfgacigaoaaGreat
end
section
set_option linter.unusedVariables false
set_option linter.unusedSimpArgs false
namespace Go.Proofs.YtbcdgfgacigaoaaGreat.Mat
open Go Go.Ab Go.Tx Go.Proofs.YtbcdgfgacigaoaaGreat
theorem sumG_mul {n : Nat} {f : Nat → G} (c : G) : sumG n (fun k => gmul (f k) c) = gmul (sumG n f) c := by
  induction n with
  | zero => exact (gzero_mul c).symm
  | succ n ih => simp only [sumG, ih, gadd_mul]
theorem gadd_swap (a b c d : G) : gadd (gadd a b) (gadd c d) = gadd (gadd a c) (gadd b d) := gext (by simp only [gadd]; omega) (by simp only [gadd]; omega)
theorem sumG_add {n : Nat} (f h : Nat → G) : sumG n (fun k => gadd (f k) (h k)) = gadd (sumG n f) (sumG n h) := by
  induction n with
  | zero => exact (gadd_zero g0).symm
  | succ n ih => simp only [sumG, ih]; exact gadd_swap _ _ _ _
theorem sumG_zero : ∀ n, sumG n (fun _ => g0) = g0
  | 0 => rfl
  | n + 1 => by simp only [sumG, sumG_zero n] <;> rfl
theorem sumG_swap {n c : Nat} (f : Nat → Nat → G) : sumG n (fun i => sumG c (fun k => f i k)) = sumG c (fun k => sumG n (fun i => f i k)) := by
  induction n with
  | zero => exact (sumG_zero c).symm
  | succ n ih => simp only [sumG, ih]; exact (sumG_add _ _).symm
theorem sumG_one {n : Nat} {f : Nat → G} {i : Nat} (hi : i < n) (h : ∀ j, j < n → j ≠ i → f j = g0) : sumG n f = f i := by
  induction n with
  | zero => omega
  | succ n ih =>
    simp only [sumG]
    by_cases e : i = n
    · subst e
      rw [sumG_congr (h := fun _ => g0) (fun k hk => h k (by omega) (by omega)), sumG_zero, gzero_add]
    · rw [ih (by omega) (fun j hj hne => h j (by omega) hne), h n (by omega) (by omega), gadd_zero]
theorem prodF_congr {n i k : Nat} {f f' h h' : Nat → Nat → G} (e1 : ∀ j, j < n → f i j = f' i j) (e2 : ∀ j, j < n → h j k = h' j k) : prodF n f h i k = prodF n f' h' i k := by
  unfold prodF
  exact sumG_congr fun j hj => by rw [e1 j hj, e2 j hj]
theorem prodF_mulr (n : Nat) (f h : Nat → Nat → G) (c : G) (i k : Nat) : prodF n f (fun i k => gmul (h i k) c) i k = gmul (prodF n f h i k) c := by
  unfold prodF
  rw [← sumG_mul]
  exact sumG_congr fun j hj => (gmul_assoc _ _ _).symm
theorem prodF_mull (n : Nat) (f h : Nat → Nat → G) (c : G) (i k : Nat) : prodF n (fun i k => gmul (f i k) c) h i k = gmul (prodF n f h i k) c := by
  unfold prodF
  rw [← sumG_mul]
  exact sumG_congr fun j hj => by rw [gmul_assoc, gmul_comm c, ← gmul_assoc]
theorem prodF_assoc (n : Nat) (f g h : Nat → Nat → G) (i k : Nat) : prodF n f (prodF n g h) i k = prodF n (prodF n f g) h i k := by
  unfold prodF
  have e1 : sumG n (fun j => gmul (f i j) (sumG n fun l => gmul (g j l) (h l k))) = sumG n (fun j => sumG n fun l => gmul (gmul (f i j) (g j l)) (h l k)) := sumG_congr fun j hj => by
    rw [gmul_comm, ← sumG_mul]
    exact sumG_congr fun l hl => by rw [gmul_comm, gmul_assoc]
  rw [e1, sumG_swap]
  exact sumG_congr fun l hl => sumG_mul _
theorem prodF_diagl {n : Nat} (s : Int) (h : Nat → Nat → G) {i k : Nat} (hi : i < n) : prodF n (diagF s) h i k = gmul (h i k) (s, 0, ()) := by
  unfold prodF
  rw [sumG_one hi (fun j hj hne => by unfold diagF; rw [if_neg (fun e => hne e.symm)]; exact gzero_mul _)]
  unfold diagF
  rw [if_pos rfl, gmul_comm]
theorem prodF_diagr {n : Nat} (s : Int) (h : Nat → Nat → G) {i k : Nat} (hk : k < n) : prodF n h (diagF s) i k = gmul (h i k) (s, 0, ()) := by
  unfold prodF
  rw [sumG_one hk (fun j hj hne => by unfold diagF; rw [if_neg hne]; exact gmul_zero _)]
  unfold diagF
  rw [if_pos rfl]
theorem prodF_add (n : Nat) (f h e : Nat → Nat → G) (i k : Nat) : prodF n f (fun i k => gadd (h i k) (e i k)) i k = gadd (prodF n f h i k) (prodF n f e i k) := by
  unfold prodF
  rw [← sumG_add]
  exact sumG_congr fun j hj => gmul_add _ _ _
theorem adj2 (f : Nat → Nat → G) (i k : Nat) : adjF 1 f i k = if (i + k) % 2 = 1 then gneg (f (skip k 0) (skip i 0)) else f (skip k 0) (skip i 0) := by
  unfold adjF cofF
  rw [det1_eq]; rfl
def mm (f : Nat → Nat → G) (a b c d : Nat) : G := gsub (gmul (f a c) (f b d)) (gmul (f a d) (f b c))
theorem adj3 (f : Nat → Nat → G) (i k : Nat) : adjF 2 f i k = if (i + k) % 2 = 1 then gneg (mm f (skip k 0) (skip k 1) (skip i 0) (skip i 1)) else mm f (skip k 0) (skip k 1) (skip i 0) (skip i 1) := by
  unfold adjF cofF
  rw [det2_eq]; rfl
set_option maxHeartbeats 4000000 in
theorem adj_right {n : Nat} (hn : n + 1 ≤ 3) (f : Nat → Nat → G) {i k : Nat} (hi : i < n + 1) (hk : k < n + 1) : prodF (n + 1) f (adjF n f) i k = if i = k then detF (n + 1) f else g0 := by
  match n, hn with
  | 0, _ =>
    obtain rfl : i = 0 := by omega
    obtain rfl : k = 0 := by omega
    rw [prod1, det1_eq]
    exact gmul_one _
  | 1, _ =>
    rw [prod2, det2_eq]
    have hi' : i = 0 ∨ i = 1 := by omega
    have hk' : k = 0 ∨ k = 1 := by omega
    rcases hi' with rfl | rfl <;> rcases hk' with rfl | rfl <;> simp only [adj2] <;> simp [skip] <;> refine gext ?_ ?_ <;> simp only [gadd, gmul, gsub, gneg, g0] <;> grind
  | 2, _ =>
    rw [prod3, det3_eq]
    have hi' : i = 0 ∨ i = 1 ∨ i = 2 := by omega
    have hk' : k = 0 ∨ k = 1 ∨ k = 2 := by omega
    rcases hi' with rfl | rfl | rfl <;> rcases hk' with rfl | rfl | rfl <;> simp only [adj3] <;> simp [skip] <;> refine gext ?_ ?_ <;> simp only [dd, mm, gadd, gmul, gsub, gneg, g0] <;> grind
set_option maxHeartbeats 4000000 in
theorem adj_left {n : Nat} (hn : n + 1 ≤ 3) (f : Nat → Nat → G) {i k : Nat} (hi : i < n + 1) (hk : k < n + 1) : prodF (n + 1) (adjF n f) f i k = if i = k then detF (n + 1) f else g0 := by
  match n, hn with
  | 0, _ =>
    obtain rfl : i = 0 := by omega
    obtain rfl : k = 0 := by omega
    rw [prod1, det1_eq]
    exact gone_mul _
  | 1, _ =>
    rw [prod2, det2_eq]
    have hi' : i = 0 ∨ i = 1 := by omega
    have hk' : k = 0 ∨ k = 1 := by omega
    rcases hi' with rfl | rfl <;> rcases hk' with rfl | rfl <;> simp only [adj2] <;> simp [skip] <;> refine gext ?_ ?_ <;> simp only [gadd, gmul, gsub, gneg, g0] <;> grind
  | 2, _ =>
    rw [prod3, det3_eq]
    have hi' : i = 0 ∨ i = 1 ∨ i = 2 := by omega
    have hk' : k = 0 ∨ k = 1 ∨ k = 2 := by omega
    rcases hi' with rfl | rfl | rfl <;> rcases hk' with rfl | rfl | rfl <;> simp only [adj3] <;> simp [skip] <;> refine gext ?_ ?_ <;> simp only [dd, mm, gadd, gmul, gsub, gneg, g0] <;> grind
theorem invT_eq (n : Nat) (f : Nat → Nat → G) (d : G) : invT n f d = fun i k => gmul (adjF n f i k) (gconj d) := rfl
theorem ite_norm (d : G) (i k : Nat) : gmul (if i = k then d else g0) (gconj d) = diagF (norm d) i k := by
  unfold diagF
  by_cases h : i = k
  · rw [if_pos h, if_pos h]; exact norm_mul d
  · rw [if_neg h, if_neg h]; exact gzero_mul _
theorem invT_right {n : Nat} (hn : n + 1 ≤ 3) (f : Nat → Nat → G) {i k : Nat} (hi : i < n + 1) (hk : k < n + 1) : prodF (n + 1) f (invT n f (detF (n + 1) f)) i k = diagF (norm (detF (n + 1) f)) i k := by
  rw [invT_eq, prodF_mulr, adj_right hn f hi hk, ite_norm]
theorem invT_left {n : Nat} (hn : n + 1 ≤ 3) (f : Nat → Nat → G) {i k : Nat} (hi : i < n + 1) (hk : k < n + 1) : prodF (n + 1) (invT n f (detF (n + 1) f)) f i k = diagF (norm (detF (n + 1) f)) i k := by
  rw [invT_eq, prodF_mull, adj_left hn f hi hk, ite_norm]
theorem mem_parts {n c : Nat} {f : Nat → Nat → G} {x : Int} : x ∈ partsM (mx n c f) ↔ ∃ i k, i < n ∧ k < c ∧ (x = (f i k).1 ∨ x = (f i k).2.1) := by
  unfold partsM
  rw [List.mem_flatMap]
  constructor
  · rintro ⟨r, hr, hx⟩
    obtain ⟨i, hi, rfl⟩ := mkL_mem hr
    unfold parts at hx
    obtain ⟨z, hz, hx⟩ := List.mem_flatMap.1 hx
    obtain ⟨k, hk, rfl⟩ := mkL_mem hz
    exact ⟨i, k, hi, hk, by simpa using hx⟩
  · rintro ⟨i, k, hi, hk, hx⟩
    refine ⟨mkL c fun k => f i k, mem_mkL (f := fun i => mkL c fun k => f i k) hi, ?_⟩
    unfold parts
    exact List.mem_flatMap.2 ⟨f i k, mem_mkL (f := fun k => f i k) hk, by simpa using hx⟩
theorem dvd_mul_gcdF {d c : Nat} : ∀ {l : List Int} {g : Nat}, d ∣ c * g → (∀ x ∈ l, d ∣ c * x.natAbs) → d ∣ c * gcdF g l
  | [], g, hg, _ => hg
  | n :: l, g, hg, h => by
    simp only [gcdF]
    refine dvd_mul_gcdF (l := l) ?_ fun x hx => h x (by simp [hx])
    rw [← Nat.gcd_mul_left]
    exact Nat.dvd_gcd hg (h n (by simp))
theorem gscale (a : G) (s : Int) : gmul a (s, 0, ()) = (a.1 * s, a.2.1 * s, ()) := gext (by simp [gmul]) (by simp [gmul])
theorem gcancel {a b : G} {s : Int} (hs : s ≠ 0) (h : gmul a (s, 0, ()) = gmul b (s, 0, ())) : a = b := by
  rw [gscale, gscale] at h
  have h1 := congrArg (fun z : G => z.1) h
  have h2 := congrArg (fun z : G => z.2.1) h
  exact gext (Int.eq_of_mul_eq_mul_right hs h1) (Int.eq_of_mul_eq_mul_right hs h2)
def invG (m : Mx) : Nat := qg (norm (detM m)) (mx m.length m.length (invT (m.length - 1) (ent m) (detM m)))
theorem invG_pos {m : Mx} (h : invE m = 0) : 0 < invG m := by
  have := norm_pos (inv_ok h).2
  exact qg_pos (by omega)
theorem invG_dvd {m : Mx} {i k : Nat} (hi : i < m.length) (hk : k < m.length) : (invG m : Int) ∣ (invT (m.length - 1) (ent m) (detM m) i k).1 ∧ (invG m : Int) ∣ (invT (m.length - 1) (ent m) (detM m) i k).2.1 :=
  ⟨gcdF_dvd (mem_parts.2 ⟨i, k, hi, hk, .inl rfl⟩), gcdF_dvd (mem_parts.2 ⟨i, k, hi, hk, .inr rfl⟩)⟩
theorem invF_mul {m : Mx} {i k : Nat} (hi : i < m.length) (hk : k < m.length) : gmul (invF m i k) ((invG m : Int), 0, ()) = invT (m.length - 1) (ent m) (detM m) i k := by
  obtain ⟨h1, h2⟩ := invG_dvd hi hk
  rw [gscale]
  exact gext (Int.tdiv_mul_cancel h1) (Int.tdiv_mul_cancel h2)
theorem invG_norm (m : Mx) : (invG m : Int) ∣ norm (detM m) := by
  have h := gcdF_dvd_start (partsM (mx m.length m.length (invT (m.length - 1) (ent m) (detM m)))) (norm (detM m)).natAbs
  exact Int.ofNat_dvd_left.2 h
theorem invD_mul (m : Mx) : invD m * (invG m : Int) = norm (detM m) := Int.tdiv_mul_cancel (invG_norm m)
theorem invD_pos {m : Mx} (h : invE m = 0) : 1 ≤ invD m := by
  have h1 := norm_pos (inv_ok h).2
  have h2 := invD_mul m
  have h3 := (invD_bd h).1
  false_or_by_contra
  have : invD m = 0 := by omega
  rw [this, Int.zero_mul] at h2
  omega
theorem inv_right {m : Mx} (h : invE m = 0) {i k : Nat} (hi : i < m.length) (hk : k < m.length) : prodF m.length (ent m) (invF m) i k = diagF (invD m) i k := by
  obtain ⟨n, hl, h3, hm, hB⟩ := mat_shape (inv_ok h).1
  have hg := invG_pos h
  refine gcancel (s := (invG m : Int)) (by omega) ?_
  rw [← prodF_mulr, prodF_congr (f' := ent m) (h' := invT (m.length - 1) (ent m) (detM m)) (fun j hj => rfl) (fun j hj => invF_mul hj hk)]
  have hd : detM m = detF (n + 1) (ent m) := by unfold detM; rw [hl]
  have e := invD_mul m
  have hi' : i < n + 1 := by omega
  have hk' : k < n + 1 := by omega
  rw [hd] at e
  rw [hd, hl, show n + 1 - 1 = n by omega, invT_right h3 _ hi' hk']
  unfold diagF
  by_cases c : i = k
  · rw [if_pos c, if_pos c, gscale]; exact gext e.symm (by simp)
  · rw [if_neg c, if_neg c, gzero_mul]
theorem inv_left {m : Mx} (h : invE m = 0) {i k : Nat} (hi : i < m.length) (hk : k < m.length) : prodF m.length (invF m) (ent m) i k = diagF (invD m) i k := by
  obtain ⟨n, hl, h3, hm, hB⟩ := mat_shape (inv_ok h).1
  have hg := invG_pos h
  refine gcancel (s := (invG m : Int)) (by omega) ?_
  rw [← prodF_mull, prodF_congr (f' := invT (m.length - 1) (ent m) (detM m)) (h' := ent m) (fun j hj => invF_mul hi hj) (fun j hj => rfl)]
  have hd : detM m = detF (n + 1) (ent m) := by unfold detM; rw [hl]
  have e := invD_mul m
  have hi' : i < n + 1 := by omega
  have hk' : k < n + 1 := by omega
  rw [hd] at e
  rw [hd, hl, show n + 1 - 1 = n by omega, invT_left h3 _ hi' hk']
  unfold diagF
  by_cases c : i = k
  · rw [if_pos c, if_pos c, gscale]; exact gext e.symm (by simp)
  · rw [if_neg c, if_neg c, gzero_mul]
theorem inv_ent {m : Mx} {i k : Nat} (hi : i < m.length) (hk : k < m.length) : ent (invM m).2.1 i k = invF m i k := ent_mx (invF m) hi hk
theorem inv_lowest {m : Mx} (h : invE m = 0) : qg (invD m) (mx m.length m.length (invF m)) = 1 := by
  have hg := invG_pos h
  have hall : invG m * qg (invD m) (mx m.length m.length (invF m)) ∣ invG m := by
    have e : invG m = gcdF (norm (detM m)).natAbs (partsM (mx m.length m.length (invT (m.length - 1) (ent m) (detM m)))) := rfl
    conv => rhs; rw [e]
    have hp : ∀ x : Int, ((qg (invD m) (mx m.length m.length (invF m)) : Nat) : Int) ∣ x → ((invG m * qg (invD m) (mx m.length m.length (invF m)) : Nat) : Int) ∣ x * (invG m : Int) := fun x hx => by
      rw [Int.natCast_mul, Int.mul_comm x]
      exact Int.mul_dvd_mul_left _ hx
    refine dvd_gcdF ?_ fun x hx => ?_
    · have h1 := hp (invD m) (Int.ofNat_dvd_left.2 (gcdF_dvd_start _ _))
      rw [invD_mul] at h1
      exact Int.ofNat_dvd_left.1 h1
    · obtain ⟨i, k, hi, hk, hx⟩ := mem_parts.1 hx
      have e2 := invF_mul hi hk
      rw [gscale] at e2
      rcases hx with rfl | rfl
      · rw [← e2]; exact hp _ (gcdF_dvd (mem_parts.2 ⟨i, k, hi, hk, .inl rfl⟩))
      · rw [← e2]; exact hp _ (gcdF_dvd (mem_parts.2 ⟨i, k, hi, hk, .inr rfl⟩))
  have h1 : invG m * qg (invD m) (mx m.length m.length (invF m)) ≤ invG m * 1 := by rw [Nat.mul_one]; exact Nat.le_of_dvd hg hall
  have h2 := Nat.le_of_mul_le_mul_left h1 hg
  have h3 := qg_pos (m := mx m.length m.length (invF m)) (show invD m ≠ 0 by have := invD_pos h; omega)
  omega
theorem difI_self (a : Mx) : difI a a = none := by
  unfold difI
  rw [findI_none]
  intro i r hr
  have : a.getD i [] = r := by rw [List.getD_eq_getElem?_getD, hr]; rfl
  simp only [Nat.zero_add]
  rw [if_pos this.symm]
theorem difI_none {a b : Mx} (hl : a.length = b.length) (h : difI a b = none) : a = b := by
  unfold difI at h
  rw [findI_none] at h
  refine List.ext_getElem? fun i => ?_
  by_cases hi : i < a.length
  · have h1 := h i (a.getD i []) (at_getD [] hi)
    rw [at_getD [] hi, at_getD [] (show i < b.length by omega)]
    by_cases c : a.getD i [] = b.getD i []
    · rw [c]
    · rw [if_neg (by simpa using c)] at h1; cases h1
  · rw [List.getElem?_eq_none (by omega), List.getElem?_eq_none (by omega)]
theorem inv_qtE {m : Mx} (h : invE m = 0) : qtE (invM m) m.length = 0 := by
  have h1 := invD_pos h
  have h2 := (invD_bd h).2
  unfold qtE
  rw [invM_eq]
  simp only
  rw [if_neg (fun hh => hh ⟨h1, by unfold denMax; omega⟩), if_neg (fun hh => hh (mx_len _ _ _)), if_neg (fun hh => hh (mx_rect _ _ _).2), if_neg (fun hh => hh (bdM_mx.2 fun i k hi hk => (invF_bd h i k hi hk).mono (by unfold denMax; omega))), if_pos (inv_lowest h)]
theorem chk_self {m : Mx} (h : invE m = 0) : chkInv m (invM m) = (0, 0) := by
  unfold chkInv
  rw [if_neg (fun hh => hh (inv_ok h).1), if_neg (fun hh => hh (inv_qtE h))]
  have e : mx m.length m.length (prodF m.length (ent m) (ent (invM m).2.1)) = mx m.length m.length (diagF (invM m).1) := mx_congr fun i k hi hk => by
    rw [prodF_congr (f' := ent m) (h' := invF m) (fun j hj => rfl) (fun j hj => inv_ent hj hk)]
    exact inv_right h hi hk
  rw [e, difI_self]
theorem chk_unique {m : Mx} (h : invE m = 0) {x : Qt} (hx : (chkInv m x).2 = 0) : x = invM m := by
  unfold chkInv at hx
  obtain ⟨hE, hz⟩ := inv_ok h
  rw [if_neg (fun hh => hh hE)] at hx
  by_cases hq : qtE x m.length = 0
  case neg => rw [if_pos hq] at hx; exact absurd hx hq
  rw [if_neg (fun hh => hh hq)] at hx
  cases hd : difI (mx m.length m.length (prodF m.length (ent m) (ent x.2.1))) (mx m.length m.length (diagF x.1)) with
  | some i => rw [hd] at hx; cases hx
  | none =>
  have he := mx_inj (difI_none (by rw [mx_len, mx_len]) hd)
  obtain ⟨⟨a1, _⟩, hR, _, hlow⟩ := qt_ok hq
  have hxm := rect_mx hR
  obtain ⟨a, mm, _⟩ := x
  simp only at he a1 hR hxm hlow
  obtain ⟨n, hl, h3, hm, hB⟩ := mat_shape hE
  have hdd : detM m = detF (n + 1) (ent m) := by unfold detM; rw [hl]
  -- norm times the entries is the adjugate's times a
  have hT : ∀ i k, i < m.length → k < m.length → gmul (ent mm i k) (norm (detM m), 0, ()) = gmul (invT (m.length - 1) (ent m) (detM m) i k) (a, 0, ()) := fun i k hi hk => by
    have e1 := prodF_assoc m.length (invT (m.length - 1) (ent m) (detM m)) (ent m) (ent mm) i k
    have e2 : prodF m.length (invT (m.length - 1) (ent m) (detM m)) (prodF m.length (ent m) (ent mm)) i k = prodF m.length (invT (m.length - 1) (ent m) (detM m)) (diagF a) i k := prodF_congr (fun j hj => rfl) (fun j hj => he j k hj hk)
    have e3 : prodF m.length (prodF m.length (invT (m.length - 1) (ent m) (detM m)) (ent m)) (ent mm) i k = prodF m.length (diagF (norm (detM m))) (ent mm) i k := prodF_congr (fun j hj => by
      have hi' : i < n + 1 := by omega
      have hj' : j < n + 1 := by omega
      rw [hdd, hl, show n + 1 - 1 = n by omega]; exact invT_left h3 _ hi' hj') (fun j hj => rfl)
    rw [e2, e3, prodF_diagr _ _ hk, prodF_diagl _ _ hi] at e1
    exact e1.symm
  have hN := norm_pos hz
  -- a divides the norm
  have hparts : ∀ x, x ∈ partsM mm → ∃ i k, i < m.length ∧ k < m.length ∧ (x = (ent mm i k).1 ∨ x = (ent mm i k).2.1) := fun x hx => by rw [hxm] at hx; exact mem_parts.1 hx
  have hmul : ∀ x, x ∈ partsM mm → ∃ y, norm (detM m) * x = y * a ∧ y ∈ partsM (mx m.length m.length (invT (m.length - 1) (ent m) (detM m))) := fun x hx => by
    obtain ⟨i, k, hi, hk, hx⟩ := hparts x hx
    have e := hT i k hi hk
    rw [gscale, gscale] at e
    rcases hx with rfl | rfl
    · exact ⟨_, by rw [Int.mul_comm]; exact congrArg (fun z : G => z.1) e, mem_parts.2 ⟨i, k, hi, hk, .inl rfl⟩⟩
    · exact ⟨_, by rw [Int.mul_comm]; exact congrArg (fun z : G => z.2.1) e, mem_parts.2 ⟨i, k, hi, hk, .inr rfl⟩⟩
  have hdvd : a.natAbs ∣ (norm (detM m)).natAbs := by
    have h1 : a.natAbs ∣ (norm (detM m)).natAbs * gcdF a.natAbs (partsM mm) := dvd_mul_gcdF (Nat.dvd_mul_left _ _) fun x hx => by
      obtain ⟨y, e, _⟩ := hmul x hx
      rw [← Int.natAbs_mul, e, Int.natAbs_mul]
      exact Nat.dvd_mul_left _ _
    have h2 : gcdF a.natAbs (partsM mm) = 1 := hlow
    rw [h2, Nat.mul_one] at h1
    exact h1
  obtain ⟨c, hc⟩ := Int.natAbs_dvd_natAbs.1 hdvd
  have hc0 : 0 < c := by
    rcases Int.lt_or_le 0 c with h9 | h9
    · exact h9
    · have := Int.mul_nonneg (show 0 ≤ a by omega) (show 0 ≤ -c by omega)
      rw [Int.mul_neg] at this; omega
  have hTc : ∀ i k, i < m.length → k < m.length → invT (m.length - 1) (ent m) (detM m) i k = gmul (ent mm i k) (c, 0, ()) := fun i k hi hk => by
    have e := hT i k hi hk
    refine gcancel (s := a) (by omega) ?_
    rw [← e, hc, gscale, gscale, gscale]
    exact gext (by simp only; grind) (by simp only; grind)
  -- the common divisor is c
  have hGc : invG m = c.natAbs := by
    refine Nat.dvd_antisymm ?_ ?_
    · have h1 : invG m ∣ c.natAbs * gcdF a.natAbs (partsM mm) := dvd_mul_gcdF (by
        rw [← Int.natAbs_mul, Int.mul_comm, ← hc]
        exact gcdF_dvd_start _ _) fun x hx => by
          obtain ⟨i, k, hi, hk, hx⟩ := hparts x hx
          obtain ⟨g1, g2⟩ := invG_dvd (m := m) hi hk
          rw [hTc i k hi hk, gscale] at g1 g2
          simp only at g1 g2
          rw [← Int.natAbs_mul, Int.mul_comm]
          rcases hx with rfl | rfl
          · exact Int.ofNat_dvd_left.1 g1
          · exact Int.ofNat_dvd_left.1 g2
      have h2 : gcdF a.natAbs (partsM mm) = 1 := hlow
      rw [h2, Nat.mul_one] at h1
      exact h1
    · refine dvd_gcdF ?_ fun x hx => ?_
      · rw [hc, Int.natAbs_mul]; exact Nat.dvd_mul_left _ _
      · obtain ⟨i, k, hi, hk, hx⟩ := mem_parts.1 hx
        rw [hTc i k hi hk, gscale] at hx
        have hcc : (c.natAbs : Int) = c := by omega
        rw [hcc]
        rcases hx with rfl | rfl
        · exact Int.dvd_mul_left _ _
        · exact Int.dvd_mul_left _ _
  have hcc : (invG m : Int) = c := by omega
  have hD : invD m = a := by
    have e := invD_mul m
    rw [hcc, hc] at e
    exact Int.eq_of_mul_eq_mul_right (by omega) e
  have hF : ∀ i k, i < m.length → k < m.length → invF m i k = ent mm i k := fun i k hi hk => by
    have e := invF_mul hi hk
    rw [hcc, hTc i k hi hk] at e
    exact gcancel (by omega) e
  rw [invM_eq, hD]
  rw [hxm]
  congr 2
  exact mx_congr fun i k hi hk => (hF i k hi hk).symm
end Go.Proofs.YtbcdgfgacigaoaaGreat.Mat
end
section
set_option linter.unusedVariables false
set_option linter.unusedSimpArgs false
namespace Go.Proofs.YtbcdgfgacigaoaaGreat.Mat
open Go Go.Ab Go.Tx Go.Proofs.YtbcdgfgacigaoaaGreat
abbrev Rg := Mx × Mx × Int × Int × Int × Unit
def low (num den : Int) : Prop := 0 < den ∧ Int.gcd num den = 1
instance (num den : Int) : Decidable (low num den) := inferInstanceAs (Decidable (_ ∧ _))
def conF (r : Rg) (i k : Nat) : G := gsub (diagF (r.2.2.2.1 * invD r.2.1) i k) (gmul (prodF r.2.1.length (ent r.1) (invF r.2.1) i k) (r.2.2.1, 0, ()))
def conR (r : Rg) : Int := rsum r.2.1.length r.2.1.length (conF r)
def conQ (r : Rg) : Int := r.2.2.2.1 * invD r.2.1
structure ConB (r : Rg) : Prop where
  pB : BdF 73728000000 r.2.1.length r.2.1.length (prodF r.2.1.length (ent r.1) (invF r.2.1))
  sB : BdF 14745600000000 r.2.1.length r.2.1.length (fun i k => gmul (prodF r.2.1.length (ent r.1) (invF r.2.1) i k) (r.2.2.1, 0, ()))
  qB : 1 ≤ conQ r ∧ conQ r ≤ 7372800000000
  cB : BdF 22118400000000 r.2.1.length r.2.1.length (conF r)
  rB : 0 ≤ conR r ∧ conR r ≤ 132710400000000
  n1 : 1 ≤ r.2.1.length
  n3 : r.2.1.length ≤ 3
def smallC (c : G) : Prop := (-1000000000 ≤ c.1 ∧ c.1 ≤ 1000000000) ∧ c.2.1 ≤ 1000000000
instance (c : G) : Decidable (smallC c) := inferInstanceAs (Decidable (_ ∧ _))
theorem mx_set {n c i k : Nat} (f : Nat → Nat → G) (z : G) (hi : i < n) (hk : k < c) : (mx n c f).set i ((mkL c fun b => f i b).set k z) = mx n c fun a b => if a = i ∧ b = k then z else f a b := by
  refine mkL_of (by simp [mx_len]) fun a ha => ?_
  rw [List.getElem?_set, mx_len]
  by_cases c1 : i = a
  · subst c1
    rw [if_pos rfl, if_pos hi]
    congr 1
    refine mkL_of (by simp [mkL_len]) fun b hb => ?_
    rw [List.getElem?_set, mkL_len]
    by_cases c2 : k = b
    · subst c2
      rw [if_pos rfl, if_pos hk]
      show some z = some (if i = i ∧ k = k then z else f i k)
      rw [if_pos ⟨rfl, rfl⟩]
    · rw [if_neg c2, mkL_get _ hb]
      show some (f i b) = some (if i = i ∧ b = k then z else f i b)
      rw [if_neg (fun hh => c2 hh.2.symm)]
  · rw [if_neg c1, mx_at _ ha]
    congr 1
    exact mkL_congr fun b hb => by
      show f a b = if a = i ∧ b = k then z else f a b
      rw [if_neg (fun hh => c1 hh.1.symm)]
def mid (f g : Nat → Nat → G) (i k a b : Nat) : G := if a < i ∨ (a = i ∧ b < k) then f a b else g a b
theorem mid_zero (f g : Nat → Nat → G) (a b : Nat) : mid f g 0 0 a b = g a b := if_neg (by omega)
theorem mid_here (f g : Nat → Nat → G) (i k : Nat) : mid f g i k i k = g i k := if_neg (by omega)
theorem mid_next (f g : Nat → Nat → G) (i k a b : Nat) : (if a = i ∧ b = k then f i k else mid f g i k a b) = mid f g i (k + 1) a b := by
  unfold mid
  by_cases c1 : a = i ∧ b = k
  · rw [if_pos c1, if_pos (by omega), c1.1, c1.2]
  · rw [if_neg c1]
    by_cases c2 : a < i ∨ (a = i ∧ b < k)
    · rw [if_pos c2, if_pos (by omega)]
    · rw [if_neg c2, if_neg (by omega)]
theorem mid_row (f g : Nat → Nat → G) {i n a b : Nat} (hb : b < n) : mid f g i n a b = mid f g (i + 1) 0 a b := by
  unfold mid
  by_cases c2 : a < i ∨ (a = i ∧ b < n)
  · rw [if_pos c2, if_pos (by omega)]
  · rw [if_neg c2, if_neg (by omega)]
theorem mid_end (f g : Nat → Nat → G) {n a b : Nat} (ha : a < n) : mid f g n 0 a b = f a b := if_pos (by omega)
theorem mid_set {n c i k : Nat} (f g : Nat → Nat → G) {z : G} (hi : i < n) (hk : k < c) (hz : z = f i k) : (mx n c (mid f g i k)).set i ((mkL c fun b => mid f g i k i b).set k z) = mx n c (mid f g i (k + 1)) := by
  rw [mx_set (mid f g i k) z hi hk, hz]
  exact mx_congr fun a b _ _ => mid_next f g i k a b
end Go.Proofs.YtbcdgfgacigaoaaGreat.Mat
namespace Go.Proofs.YtbcdgfgacigaoaaGreat
open Go Go.Ab Go.Tx
end Go.Proofs.YtbcdgfgacigaoaaGreat
end
