/-
  ONE LAW OF A CHAPTER: its program side is run by an interpreter that is proved sound; what it computes is shown to be what the law says. No conditions. Part 6 of 6.
-/
import Derived.Test.YtbcdgfgacigaoaaMLe
import Derived.Test.YtbcdgfgacigaoaaProg
import Derived.KernelRfl
set_option linter.unusedSimpArgs false
set_option linter.unusedVariables false
set_option linter.unnecessarySimpa false
section
set_option maxRecDepth 100000
set_option linter.unusedVariables false
namespace Go.Proofs.Ytbcdgfgacigaoaa
open Go Go.Ab Go.Tx
noncomputable section
@[reducible] def I : Ty := .int .i64
@[reducible] def w64 (n : Int) : Int := IntKind.wrap .i64 n
def lookJ : List (List Tmp × FuncId × Kind × Join) → List Tmp → FuncId → Kind → Option Join
  | [], _, _, _ => none
  | (c, f, k, j) :: l, c', f', k' => if f = f' then (if k = k' then (if c = c' then some j else lookJ l c' f' k') else lookJ l c' f' k') else lookJ l c' f' k'
def awakeId : Nat := 7
def mkTH (js : List (List Tmp × FuncId × Kind × Join)) (inl : List (List Tmp × FuncId × Tmp)) : TH where
  lib := fun g => decide (g = awakeId)
  join := lookJ js
  inl := fun c f d => inl.any fun (c', f', d') => decide (f = f') && decide (d = d') && decide (c = c')
def Lb : FuncId → Option (List V → Option V) := fun g => if g = awakeId then some (fun args => match args with
    | [] => some (.val (.bool true))
    | _ => none) else none
theorem hJ {js : List (List Tmp × FuncId × Kind × Join)} {inl : List (List Tmp × FuncId × Tmp)} : ∀ g, (mkTH js inl).lib g = false → Lb g = none := fun g h => by
  simp only [mkTH, decide_eq_false_iff_not] at h
  simp [Lb, h]
def law04_awake : Option Bool := some true
def e_law04_awake : Entry := ⟨7, [], [(.bool, 0)], fun _ => law04_awake⟩
theorem o_law04_awake : EntryOk Try.prog Hn.hints Lb e_law04_awake := fun x y h vs hv => by
  obtain rfl : true = y := Option.some.inj h
  simp only [e_law04_awake, ofPms, RVL] at hv
  subst hv
  refine ⟨.val (.bool true), ⟨1, fun m hm => ?_⟩, by simp [packT, e_law04_awake, ofL, packedT, ofTy, RV, RTy]⟩
  obtain ⟨m', rfl⟩ : ∃ m', m = m' + 1 := ⟨m - 1, by omega⟩
  simp [orcN, Lb, awakeId, e_law04_awake]
def base_CopyInts (a0 : (List Int)) : Option (List Int) :=
  (app [] a0).bind fun x1 =>
  some x1
def e_base_CopyInts : Entry := ⟨9, [.ty (.sl I)], [((.sl I), 1)], fun x => base_CopyInts x⟩
def j_base_CopyInts : TH := mkTH [] []
theorem k_base_CopyInts (x : denP e_base_CopyInts.ps) : fnT Try.prog Hn.hints j_base_CopyInts (tabT []) 40 9 (ofPms e_base_CopyInts.ps x) e_base_CopyInts.rs = e_base_CopyInts.F x := by kernel_rfl
theorem o_base_CopyInts : EntryOk Try.prog Hn.hints Lb e_base_CopyInts := entry_ok tab_nil hJ 40 _ _ _ _ k_base_CopyInts
def drive_unless (a0 : Bool) (a1 : Int) : Option Int :=
  bif a0 then
    some 0
  else
    some a1
def e_drive_unless : Entry := ⟨50, [.ty .bool, .ty I], [(I, 0)], fun x => drive_unless x.1 x.2⟩
def j_drive_unless : TH := mkTH [] []
theorem k_drive_unless (x : denP e_drive_unless.ps) : fnT Try.prog Hn.hints j_drive_unless (tabT []) 40 50 (ofPms e_drive_unless.ps x) e_drive_unless.rs = e_drive_unless.F x := by kernel_rfl
theorem o_drive_unless : EntryOk Try.prog Hn.hints Lb e_drive_unless := entry_ok tab_nil hJ 40 _ _ _ _ k_drive_unless
def drive_first (a0 : (List Int)) : Option Int :=
  (loopO (fun (s2 : Int) =>
      bif decide (s2 < (a0.length : Int)) then
        (idx a0 s2).bind fun x3 =>
        bif !(decide (x3 = 0)) then
          some (.inr (.inr x3))
        else
          some (.inl (w64 (s2 + 1)))
      else
        some (.inr (.inl ()))) 0).bind (Sum.elim (fun (p4 : Unit) =>
  some 0) some)
def e_drive_first : Entry := ⟨49, [.ty (.sl I)], [(I, 0)], fun x => drive_first x⟩
def j_drive_first : TH := mkTH [([], 49, .block 0, { lv := [], ps := [], abn := true, D := ⟨32656⟩ }),
  ([], 49, .loop 0, { lv := [⟨none, 7, 0⟩], ps := [(I, 0)], D := ⟨32656⟩ })] []
theorem k_drive_first (x : denP e_drive_first.ps) : fnT Try.prog Hn.hints j_drive_first (tabT []) 40 49 (ofPms e_drive_first.ps x) e_drive_first.rs = e_drive_first.F x := by kernel_rfl
theorem o_drive_first : EntryOk Try.prog Hn.hints Lb e_drive_first := entry_ok tab_nil hJ 40 _ _ _ _ k_drive_first
def drive_within (a0 : Int) (a1 : Int) (a2 : Int) : Option Bool :=
  (bif decide (a1 ≤ a0) then
      some (decide (a0 ≤ a2))
    else
      some false).bind fun (p1 : Bool) =>
  some p1
def e_drive_within : Entry := ⟨67, [.ty I, .ty I, .ty I], [(.bool, 0)], fun x => drive_within x.1 x.2.1 x.2.2⟩
def j_drive_within : TH := mkTH [([], 67, .region 1, { lv := [⟨none, 6, 0⟩], ps := [(.bool, 0)], D := ⟨32704⟩ })] []
theorem k_drive_within (x : denP e_drive_within.ps) : fnT Try.prog Hn.hints j_drive_within (tabT []) 40 67 (ofPms e_drive_within.ps x) e_drive_within.rs = e_drive_within.F x := by kernel_rfl
theorem o_drive_within : EntryOk Try.prog Hn.hints Lb e_drive_within := entry_ok tab_nil hJ 40 _ _ _ _ k_drive_within
def drive_isSized (a0 : Int) (a1 : Int) : Option Bool :=
  (drive_within a0 (w64 (0 - a1)) a1).bind fun x1 =>
  some x1
def e_drive_isSized : Entry := ⟨84, [.ty I, .ty I], [(.bool, 0)], fun x => drive_isSized x.1 x.2⟩
def j_drive_isSized : TH := mkTH [] []
theorem k_drive_isSized (x : denP e_drive_isSized.ps) : fnT Try.prog Hn.hints j_drive_isSized (tabT [e_drive_within]) 40 84 (ofPms e_drive_isSized.ps x) e_drive_isSized.rs = e_drive_isSized.F x := by kernel_rfl
theorem o_drive_isSized : EntryOk Try.prog Hn.hints Lb e_drive_isSized := entry_ok (tab_cons o_drive_within tab_nil) hJ 40 _ _ _ _ k_drive_isSized
def drive_polynomialErr_1 (a0 : Int) : Option Bool :=
  (drive_isSized a0 (1000 : Int)).bind fun x1 =>
  some (!x1)
def e_drive_polynomialErr_1 : Entry := ⟨83, [.ty I], [(.bool, 0)], fun x => drive_polynomialErr_1 x⟩
def j_drive_polynomialErr_1 : TH := mkTH [] []
theorem k_drive_polynomialErr_1 (x : denP e_drive_polynomialErr_1.ps) : fnT Try.prog Hn.hints j_drive_polynomialErr_1 (tabT [e_drive_isSized]) 40 83 (ofPms e_drive_polynomialErr_1.ps x) e_drive_polynomialErr_1.rs = e_drive_polynomialErr_1.F x := by kernel_rfl
theorem o_drive_polynomialErr_1 : EntryOk Try.prog Hn.hints Lb e_drive_polynomialErr_1 := entry_ok (tab_cons o_drive_isSized tab_nil) hJ 40 _ _ _ _ k_drive_polynomialErr_1
def slices_IndexFunc_Lint_int_of_drive_polynomialErr_1 (a0 : (List Int)) : Option Int :=
  (loopO (fun (s2 : Int) =>
      bif decide (s2 < (a0.length : Int)) then
        (idx a0 s2).bind fun x3 =>
        (drive_polynomialErr_1 x3).bind fun x4 =>
        bif x4 then
          some (.inr (.inr s2))
        else
          some (.inl (w64 (s2 + 1)))
      else
        some (.inr (.inl ()))) 0).bind (Sum.elim (fun (p5 : Unit) =>
  some (-1)) some)
def e_slices_IndexFunc_Lint_int_of_drive_polynomialErr_1 : Entry := ⟨105, [.ty (.sl I), .fn 83 []], [(I, 0)], fun x => slices_IndexFunc_Lint_int_of_drive_polynomialErr_1 x.1⟩
def j_slices_IndexFunc_Lint_int_of_drive_polynomialErr_1 : TH := mkTH [([], 105, .block 0, { lv := [], ps := [], abn := true, D := ⟨524064⟩ }),
  ([], 105, .loop 0, { lv := [⟨none, 8, 0⟩], ps := [(I, 0)], D := ⟨524064⟩ })] []
theorem k_slices_IndexFunc_Lint_int_of_drive_polynomialErr_1 (x : denP e_slices_IndexFunc_Lint_int_of_drive_polynomialErr_1.ps) : fnT Try.prog Hn.hints j_slices_IndexFunc_Lint_int_of_drive_polynomialErr_1 (tabT [e_drive_polynomialErr_1]) 40 105 (ofPms e_slices_IndexFunc_Lint_int_of_drive_polynomialErr_1.ps x) e_slices_IndexFunc_Lint_int_of_drive_polynomialErr_1.rs = e_slices_IndexFunc_Lint_int_of_drive_polynomialErr_1.F x := by kernel_rfl
theorem o_slices_IndexFunc_Lint_int_of_drive_polynomialErr_1 : EntryOk Try.prog Hn.hints Lb e_slices_IndexFunc_Lint_int_of_drive_polynomialErr_1 := entry_ok (tab_cons o_drive_polynomialErr_1 tab_nil) hJ 40 _ _ _ _ k_slices_IndexFunc_Lint_int_of_drive_polynomialErr_1
def slices_ContainsFunc_Lint_int_of_drive_polynomialErr_1 (a0 : (List Int)) : Option Bool :=
  (slices_IndexFunc_Lint_int_of_drive_polynomialErr_1 a0).bind fun x1 =>
  some (decide (x1 ≥ 0))
def e_slices_ContainsFunc_Lint_int_of_drive_polynomialErr_1 : Entry := ⟨82, [.ty (.sl I), .fn 83 []], [(.bool, 0)], fun x => slices_ContainsFunc_Lint_int_of_drive_polynomialErr_1 x.1⟩
def j_slices_ContainsFunc_Lint_int_of_drive_polynomialErr_1 : TH := mkTH [] []
theorem k_slices_ContainsFunc_Lint_int_of_drive_polynomialErr_1 (x : denP e_slices_ContainsFunc_Lint_int_of_drive_polynomialErr_1.ps) : fnT Try.prog Hn.hints j_slices_ContainsFunc_Lint_int_of_drive_polynomialErr_1 (tabT [e_slices_IndexFunc_Lint_int_of_drive_polynomialErr_1]) 40 82 (ofPms e_slices_ContainsFunc_Lint_int_of_drive_polynomialErr_1.ps x) e_slices_ContainsFunc_Lint_int_of_drive_polynomialErr_1.rs = e_slices_ContainsFunc_Lint_int_of_drive_polynomialErr_1.F x := by kernel_rfl
theorem o_slices_ContainsFunc_Lint_int_of_drive_polynomialErr_1 : EntryOk Try.prog Hn.hints Lb e_slices_ContainsFunc_Lint_int_of_drive_polynomialErr_1 := entry_ok (tab_cons o_slices_IndexFunc_Lint_int_of_drive_polynomialErr_1 tab_nil) hJ 40 _ _ _ _ k_slices_ContainsFunc_Lint_int_of_drive_polynomialErr_1
def drive_polynomialErr (a0 : (List Int)) : Option Int :=
  (drive_unless (decide ((a0.length : Int) > 0)) (10 : Int)).bind fun x1 =>
  (drive_unless (decide ((a0.length : Int) ≤ 4)) (8 : Int)).bind fun x2 =>
  (drive_first ([x1, x2])).bind fun x3 =>
  bif !(decide (x3 = 0)) then
    some x3
  else
    (slices_ContainsFunc_Lint_int_of_drive_polynomialErr_1 a0).bind fun x4 =>
    (drive_unless (!x4) (2 : Int)).bind fun x5 =>
    (idx a0 0).bind fun x6 =>
    (drive_unless (!(decide (x6 = 0))) (11 : Int)).bind fun x7 =>
    (drive_first ([x5, x7])).bind fun x8 =>
    some x8
def e_drive_polynomialErr : Entry := ⟨43, [.ty (.sl I)], [(I, 0)], fun x => drive_polynomialErr x⟩
def j_drive_polynomialErr : TH := mkTH [] []
theorem k_drive_polynomialErr (x : denP e_drive_polynomialErr.ps) : fnT Try.prog Hn.hints j_drive_polynomialErr (tabT [e_drive_first, e_drive_unless, e_slices_ContainsFunc_Lint_int_of_drive_polynomialErr_1]) 40 43 (ofPms e_drive_polynomialErr.ps x) e_drive_polynomialErr.rs = e_drive_polynomialErr.F x := by kernel_rfl
theorem o_drive_polynomialErr : EntryOk Try.prog Hn.hints Lb e_drive_polynomialErr := entry_ok (tab_cons o_drive_first (tab_cons o_drive_unless (tab_cons o_slices_ContainsFunc_Lint_int_of_drive_polynomialErr_1 tab_nil))) hJ 40 _ _ _ _ k_drive_polynomialErr
def drive_divisor (a0 : (List Int)) : Option Int :=
  (loopO (fun (s2 : (Int × Int)) =>
      bif decide (s2.2 < (a0.length : Int)) then
        (idx a0 s2.2).bind fun x3 =>
        (loopO (fun (s5 : (Int × Int)) =>
            bif !(decide (s5.2 = 0)) then
              bif decide (s5.2 = 0) then
                none
              else
                some (.inl (s5.2, s5.1.tmod s5.2))
            else
              some (.inr s5.1)) (s2.1, x3)).bind fun (p6 : Int) =>
        some (.inl (p6, w64 (s2.2 + 1)))
      else
        some (.inr s2.1)) (0, 0)).bind fun (p7 : Int) =>
  some (max p7 (w64 (0 - p7)))
def e_drive_divisor : Entry := ⟨98, [.ty (.sl I)], [(I, 0)], fun x => drive_divisor x⟩
def j_drive_divisor : TH := mkTH [([], 98, .block 0, { lv := [⟨none, 3, 0⟩], ps := [(I, 0)], D := ⟨524072⟩ }),
  ([], 98, .loop 0, { lv := [⟨none, 3, 0⟩, ⟨none, 8, 0⟩], ps := [(I, 0), (I, 0)], D := ⟨524072⟩ }),
  ([], 98, .block 2, { lv := [⟨none, 3, 0⟩], ps := [(I, 0)], D := ⟨258088⟩ }),
  ([], 98, .loop 2, { lv := [⟨none, 3, 0⟩, ⟨none, 5, 0⟩], ps := [(I, 0), (I, 0)], D := ⟨258088⟩ })] []
theorem k_drive_divisor (x : denP e_drive_divisor.ps) : fnT Try.prog Hn.hints j_drive_divisor (tabT []) 40 98 (ofPms e_drive_divisor.ps x) e_drive_divisor.rs = e_drive_divisor.F x := by kernel_rfl
theorem o_drive_divisor : EntryOk Try.prog Hn.hints Lb e_drive_divisor := entry_ok tab_nil hJ 40 _ _ _ _ k_drive_divisor
def drive_lowest (a0 : (List Int)) : Option (List Int) :=
  (drive_divisor a0).bind fun x1 =>
  (idx a0 0).bind fun x2 =>
  (bif decide (x2 < 0) then
      some (w64 (0 - x1))
    else
      some x1).bind fun (p3 : Int) =>
  (loopO (fun (s6 : ((List Int) × Int)) =>
      bif decide (s6.2 < (a0.length : Int)) then
        (idx a0 s6.2).bind fun x7 =>
        bif decide (p3 = 0) then
          none
        else
          (app s6.1 ([w64 (x7.tdiv p3)])).bind fun x8 =>
          some (.inl (x8, w64 (s6.2 + 1)))
      else
        some (.inr s6.1)) ([], 0)).bind fun (p9 : (List Int)) =>
  some p9
def e_drive_lowest : Entry := ⟨85, [.ty (.sl I)], [((.sl I), 1)], fun x => drive_lowest x⟩
def j_drive_lowest : TH := mkTH [([], 85, .cond 12, { lv := [⟨none, 3, 0⟩], ps := [(I, 0)], D := ⟨24584⟩ }),
  ([], 85, .block 0, { lv := [⟨none, 4, 0⟩], ps := [((.sl I), 1)], D := ⟨268304464⟩ }),
  ([], 85, .loop 0, { lv := [⟨none, 4, 0⟩, ⟨none, 17, 0⟩], ps := [((.sl I), 1), (I, 0)], D := ⟨268304464⟩ })] []
theorem k_drive_lowest (x : denP e_drive_lowest.ps) : fnT Try.prog Hn.hints j_drive_lowest (tabT [e_drive_divisor]) 40 85 (ofPms e_drive_lowest.ps x) e_drive_lowest.rs = e_drive_lowest.F x := by kernel_rfl
theorem o_drive_lowest : EntryOk Try.prog Hn.hints Lb e_drive_lowest := entry_ok (tab_cons o_drive_divisor tab_nil) hJ 40 _ _ _ _ k_drive_lowest
def drive_table (a0 : (List Int)) : Option (List (List Int)) :=
  (drive_lowest a0).bind fun x1 =>
  (loopO (fun (s3 : ((List Int) × (List (List Int)))) =>
      bif decide ((s3.1.length : Int) > 1) then
        (idx s3.1 (w64 ((s3.1.length : Int) - 1))).bind fun x4 =>
        (idx s3.1 0).bind fun x5 =>
        (drive_isSized x4 (w64 (x5 - 1))).bind fun x6 =>
        bif !x6 then
          some (.inr (.inl s3.2))
        else
          bif decide (w64 ((s3.1.length : Int) - 1) = 1) then
            (app s3.2 ([[1]])).bind fun x7 =>
            some (.inr (.inr x7))
          else
            (loopO (fun (s10 : ((List Int) × Int)) =>
                bif decide (s10.2 < w64 ((s3.1.length : Int) - 1)) then
                  (idx s3.1 0).bind fun x11 =>
                  (idx s3.1 s10.2).bind fun x12 =>
                  (idx s3.1 (w64 ((s3.1.length : Int) - 1))).bind fun x13 =>
                  (idx s3.1 (w64 ((w64 ((s3.1.length : Int) - 1)) - s10.2))).bind fun x14 =>
                  (app s10.1 ([w64 ((w64 (x11 * x12)) - (w64 (x13 * x14)))])).bind fun x15 =>
                  some (.inl (x15, w64 (s10.2 + 1)))
                else
                  some (.inr s10.1)) ([], 0)).bind fun (p16 : (List Int)) =>
            (drive_lowest p16).bind fun x17 =>
            (app s3.2 ([x17])).bind fun x18 =>
            some (.inl (x17, x18))
      else
        some (.inr (.inl s3.2))) (x1, [x1])).bind (Sum.elim (fun (p19 : (List (List Int))) =>
  some p19) some)
def e_drive_table : Entry := ⟨44, [.ty (.sl I)], [((.sl (.sl I)), 2001)], fun x => drive_table x⟩
def j_drive_table : TH := mkTH [([], 44, .block 0, { lv := [⟨none, 4, 0⟩], ps := [((.sl (.sl I)), 1)], abn := true, D := ⟨295147905179352822008⟩ }),
  ([], 44, .loop 0, { lv := [⟨none, 3, 0⟩, ⟨none, 4, 0⟩], ps := [((.sl I), 1), ((.sl (.sl I)), 1)], D := ⟨295147905179352822008⟩ }),
  ([], 44, .block 2, { lv := [⟨none, 6, 0⟩], ps := [((.sl I), 1)], D := ⟨4611685984067649728⟩ }),
  ([], 44, .loop 2, { lv := [⟨none, 6, 0⟩, ⟨none, 35, 0⟩], ps := [((.sl I), 1), (I, 0)], D := ⟨4611685984067649728⟩ })] []
theorem k_drive_table (x : denP e_drive_table.ps) : fnT Try.prog Hn.hints j_drive_table (tabT [e_drive_isSized, e_drive_lowest]) 40 44 (ofPms e_drive_table.ps x) e_drive_table.rs = e_drive_table.F x := by kernel_rfl
theorem o_drive_table : EntryOk Try.prog Hn.hints Lb e_drive_table := entry_ok (tab_cons o_drive_isSized (tab_cons o_drive_lowest tab_nil)) hJ 40 _ _ _ _ k_drive_table
def drive_isStable (a0 : (List Int)) : Option Bool :=
  (drive_table a0).bind fun x1 =>
  (idx x1 (w64 ((x1.length : Int) - 1))).bind fun x2 =>
  some (decide ((x2.length : Int) = 1))
def e_drive_isStable : Entry := ⟨45, [.ty (.sl I)], [(.bool, 0)], fun x => drive_isStable x⟩
def j_drive_isStable : TH := mkTH [] []
theorem k_drive_isStable (x : denP e_drive_isStable.ps) : fnT Try.prog Hn.hints j_drive_isStable (tabT [e_drive_table]) 40 45 (ofPms e_drive_isStable.ps x) e_drive_isStable.rs = e_drive_isStable.F x := by kernel_rfl
theorem o_drive_isStable : EntryOk Try.prog Hn.hints Lb e_drive_isStable := entry_ok (tab_cons o_drive_table tab_nil) hJ 40 _ _ _ _ k_drive_isStable
def drive_IsStable (a0 : (List Int)) : Option (Bool × Int) :=
  (drive_polynomialErr a0).bind fun x1 =>
  (bif decide (x1 = 0) then
      (drive_isStable a0).bind fun x2 =>
      some (x2, x1)
    else
      some (false, x1)).bind fun (p3 : (Bool × Int)) =>
  some (p3.1, p3.2)
def e_drive_IsStable : Entry := ⟨10, [.ty (.sl I)], [(.bool, 0), (I, 0)], fun x => drive_IsStable x⟩
def j_drive_IsStable : TH := mkTH [([], 10, .region 2, { lv := [⟨none, 2, 0⟩, ⟨none, 3, 0⟩], ps := [(.bool, 0), (I, 0)], D := ⟨16268⟩ })] []
theorem k_drive_IsStable (x : denP e_drive_IsStable.ps) : fnT Try.prog Hn.hints j_drive_IsStable (tabT [e_drive_isStable, e_drive_polynomialErr]) 40 10 (ofPms e_drive_IsStable.ps x) e_drive_IsStable.rs = e_drive_IsStable.F x := by kernel_rfl
theorem o_drive_IsStable : EntryOk Try.prog Hn.hints Lb e_drive_IsStable := entry_ok (tab_cons o_drive_isStable (tab_cons o_drive_polynomialErr tab_nil)) hJ 40 _ _ _ _ k_drive_IsStable
def base_Within (a0 : Int) (a1 : Int) (a2 : Int) : Option Bool :=
  (bif decide (a1 ≤ a0) then
      some (decide (a0 ≤ a2))
    else
      some false).bind fun (p1 : Bool) =>
  some p1
def e_base_Within : Entry := ⟨17, [.ty I, .ty I, .ty I], [(.bool, 0)], fun x => base_Within x.1 x.2.1 x.2.2⟩
def j_base_Within : TH := mkTH [([], 17, .region 1, { lv := [⟨none, 6, 0⟩], ps := [(.bool, 0)], D := ⟨32704⟩ })] []
theorem k_base_Within (x : denP e_base_Within.ps) : fnT Try.prog Hn.hints j_base_Within (tabT []) 40 17 (ofPms e_base_Within.ps x) e_base_Within.rs = e_base_Within.F x := by kernel_rfl
theorem o_base_Within : EntryOk Try.prog Hn.hints Lb e_base_Within := entry_ok tab_nil hJ 40 _ _ _ _ k_base_Within
def ref04_PolynomialErr (a0 : (List Int)) : Option Int :=
  bif decide ((a0.length : Int) = 0) then
    some 10
  else
    bif decide ((a0.length : Int) > 4) then
      some 8
    else
      (loopO (fun (s2 : Int) =>
          bif decide (s2 < (a0.length : Int)) then
            (idx a0 s2).bind fun x3 =>
            (base_Within x3 (-1000 : Int) (1000 : Int)).bind fun x4 =>
            bif !x4 then
              some (.inr (.inr 2))
            else
              some (.inl (w64 (s2 + 1)))
          else
            some (.inr (.inl ()))) 0).bind (Sum.elim (fun (p5 : Unit) =>
      (idx a0 0).bind fun x6 =>
      bif decide (x6 = 0) then
        some 11
      else
        some 0) some)
def e_ref04_PolynomialErr : Entry := ⟨11, [.ty (.sl I)], [(I, 0)], fun x => ref04_PolynomialErr x⟩
def j_ref04_PolynomialErr : TH := mkTH [([], 11, .block 0, { lv := [], ps := [], abn := true, D := ⟨4193288⟩ }),
  ([], 11, .loop 0, { lv := [⟨none, 3, 0⟩], ps := [(I, 0)], D := ⟨4193288⟩ })] []
theorem k_ref04_PolynomialErr (x : denP e_ref04_PolynomialErr.ps) : fnT Try.prog Hn.hints j_ref04_PolynomialErr (tabT [e_base_Within]) 40 11 (ofPms e_ref04_PolynomialErr.ps x) e_ref04_PolynomialErr.rs = e_ref04_PolynomialErr.F x := by kernel_rfl
theorem o_ref04_PolynomialErr : EntryOk Try.prog Hn.hints Lb e_ref04_PolynomialErr := entry_ok (tab_cons o_base_Within tab_nil) hJ 40 _ _ _ _ k_ref04_PolynomialErr
def base_Size (a0 : Int) : Option Int :=
  some (max a0 (w64 (0 - a0)))
def e_base_Size : Entry := ⟨16, [.ty I], [(I, 0)], fun x => base_Size x⟩
def j_base_Size : TH := mkTH [] []
theorem k_base_Size (x : denP e_base_Size.ps) : fnT Try.prog Hn.hints j_base_Size (tabT []) 40 16 (ofPms e_base_Size.ps x) e_base_Size.rs = e_base_Size.F x := by kernel_rfl
theorem o_base_Size : EntryOk Try.prog Hn.hints Lb e_base_Size := entry_ok tab_nil hJ 40 _ _ _ _ k_base_Size
def base_Gcd (a0 : Int) (a1 : Int) : Option Int :=
  (loopO (fun (s2 : (Int × Int)) =>
      bif !(decide (s2.2 = 0)) then
        bif decide (s2.2 = 0) then
          none
        else
          some (.inl (s2.2, s2.1.tmod s2.2))
      else
        some (.inr s2.1)) (a0, a1)).bind fun (p3 : Int) =>
  (base_Size p3).bind fun x4 =>
  some x4
def e_base_Gcd : Entry := ⟨86, [.ty I, .ty I], [(I, 0)], fun x => base_Gcd x.1 x.2⟩
def j_base_Gcd : TH := mkTH [([], 86, .block 0, { lv := [⟨none, 0, 0⟩], ps := [(I, 0)], D := ⟨2019⟩ }),
  ([], 86, .loop 0, { lv := [⟨none, 0, 0⟩, ⟨none, 1, 0⟩], ps := [(I, 0), (I, 0)], D := ⟨2019⟩ })] []
theorem k_base_Gcd (x : denP e_base_Gcd.ps) : fnT Try.prog Hn.hints j_base_Gcd (tabT [e_base_Size]) 40 86 (ofPms e_base_Gcd.ps x) e_base_Gcd.rs = e_base_Gcd.F x := by kernel_rfl
theorem o_base_Gcd : EntryOk Try.prog Hn.hints Lb e_base_Gcd := entry_ok (tab_cons o_base_Size tab_nil) hJ 40 _ _ _ _ k_base_Gcd
def ref04_reduced (a0 : (List Int)) : Option (List Int) :=
  (loopO (fun (s2 : (Int × Int)) =>
      bif decide (s2.2 < (a0.length : Int)) then
        (idx a0 s2.2).bind fun x3 =>
        (base_Gcd s2.1 x3).bind fun x4 =>
        some (.inl (x4, w64 (s2.2 + 1)))
      else
        some (.inr s2.1)) (0, 0)).bind fun (p5 : Int) =>
  (idx a0 0).bind fun x6 =>
  (bif decide (x6 < 0) then
      some (w64 (0 - p5))
    else
      some p5).bind fun (p7 : Int) =>
  (loopO (fun (s10 : ((List Int) × Int)) =>
      bif decide (s10.2 < (a0.length : Int)) then
        (idx a0 s10.2).bind fun x11 =>
        bif decide (p7 = 0) then
          none
        else
          (app s10.1 ([w64 (x11.tdiv p7)])).bind fun x12 =>
          some (.inl (x12, w64 (s10.2 + 1)))
      else
        some (.inr s10.1)) ([], 0)).bind fun (p13 : (List Int)) =>
  some p13
def e_ref04_reduced : Entry := ⟨47, [.ty (.sl I)], [((.sl I), 1)], fun x => ref04_reduced x⟩
def j_ref04_reduced : TH := mkTH [([], 47, .block 0, { lv := [⟨none, 3, 0⟩], ps := [(I, 0)], D := ⟨524216⟩ }),
  ([], 47, .loop 0, { lv := [⟨none, 3, 0⟩, ⟨none, 4, 0⟩], ps := [(I, 0), (I, 0)], D := ⟨524216⟩ }),
  ([], 47, .cond 22, { lv := [⟨none, 3, 0⟩], ps := [(I, 0)], D := ⟨25165832⟩ }),
  ([], 47, .block 2, { lv := [⟨none, 5, 0⟩], ps := [((.sl I), 1)], D := ⟨1099478073440⟩ }),
  ([], 47, .loop 2, { lv := [⟨none, 5, 0⟩, ⟨none, 6, 0⟩], ps := [((.sl I), 1), (I, 0)], D := ⟨1099478073440⟩ })] []
theorem k_ref04_reduced (x : denP e_ref04_reduced.ps) : fnT Try.prog Hn.hints j_ref04_reduced (tabT [e_base_Gcd]) 40 47 (ofPms e_ref04_reduced.ps x) e_ref04_reduced.rs = e_ref04_reduced.F x := by kernel_rfl
theorem o_ref04_reduced : EntryOk Try.prog Hn.hints Lb e_ref04_reduced := entry_ok (tab_cons o_base_Gcd tab_nil) hJ 40 _ _ _ _ k_ref04_reduced
def ref04_Table (a0 : (List Int)) : Option (List (List Int)) :=
  (ref04_reduced a0).bind fun x1 =>
  (loopO (fun (s3 : ((List Int) × (List (List Int)))) =>
      (bif decide ((s3.1.length : Int) > 1) then
          (idx s3.1 (w64 ((s3.1.length : Int) - 1))).bind fun x4 =>
          (base_Size x4).bind fun x5 =>
          (idx s3.1 0).bind fun x6 =>
          some (decide (x5 < x6))
        else
          some false).bind fun (p7 : Bool) =>
      bif p7 then
        bif decide (w64 ((s3.1.length : Int) - 1) = 1) then
          (app s3.2 ([[1]])).bind fun x8 =>
          some (.inr (.inr x8))
        else
          (loopO (fun (s11 : ((List Int) × Int)) =>
              bif decide (s11.2 < w64 ((s3.1.length : Int) - 1)) then
                (idx s3.1 0).bind fun x12 =>
                (idx s3.1 s11.2).bind fun x13 =>
                (idx s3.1 (w64 ((s3.1.length : Int) - 1))).bind fun x14 =>
                (idx s3.1 (w64 ((w64 ((s3.1.length : Int) - 1)) - s11.2))).bind fun x15 =>
                (app s11.1 ([w64 ((w64 (x12 * x13)) - (w64 (x14 * x15)))])).bind fun x16 =>
                some (.inl (x16, w64 (s11.2 + 1)))
              else
                some (.inr s11.1)) ([], 0)).bind fun (p17 : (List Int)) =>
          (ref04_reduced p17).bind fun x18 =>
          (app s3.2 ([x18])).bind fun x19 =>
          some (.inl (x18, x19))
      else
        some (.inr (.inl s3.2))) (x1, [x1])).bind (Sum.elim (fun (p20 : (List (List Int))) =>
  some p20) some)
def e_ref04_Table : Entry := ⟨13, [.ty (.sl I)], [((.sl (.sl I)), 2001)], fun x => ref04_Table x⟩
def j_ref04_Table : TH := mkTH [([], 13, .block 0, { lv := [⟨none, 4, 0⟩], ps := [((.sl (.sl I)), 1)], abn := true, D := ⟨2361183241434822603000⟩ }),
  ([], 13, .loop 0, { lv := [⟨none, 3, 0⟩, ⟨none, 4, 0⟩], ps := [((.sl I), 1), ((.sl (.sl I)), 1)], D := ⟨2361183241434822603000⟩ }),
  ([], 13, .region 3, { lv := [⟨none, 27, 0⟩], ps := [(.bool, 0)], D := ⟨268431360⟩ }),
  ([], 13, .block 2, { lv := [⟨none, 6, 0⟩], ps := [((.sl I), 1)], D := ⟨36893488009980149952⟩ }),
  ([], 13, .loop 2, { lv := [⟨none, 6, 0⟩, ⟨none, 7, 0⟩], ps := [((.sl I), 1), (I, 0)], D := ⟨36893488009980149952⟩ })] []
theorem k_ref04_Table (x : denP e_ref04_Table.ps) : fnT Try.prog Hn.hints j_ref04_Table (tabT [e_base_Size, e_ref04_reduced]) 40 13 (ofPms e_ref04_Table.ps x) e_ref04_Table.rs = e_ref04_Table.F x := by kernel_rfl
theorem o_ref04_Table : EntryOk Try.prog Hn.hints Lb e_ref04_Table := entry_ok (tab_cons o_base_Size (tab_cons o_ref04_reduced tab_nil)) hJ 40 _ _ _ _ k_ref04_Table
def ref04_IsStable (a0 : (List Int)) : Option Bool :=
  (ref04_Table a0).bind fun x1 =>
  (idx x1 (w64 ((x1.length : Int) - 1))).bind fun x2 =>
  some (decide ((x2.length : Int) = 1))
def e_ref04_IsStable : Entry := ⟨14, [.ty (.sl I)], [(.bool, 0)], fun x => ref04_IsStable x⟩
def j_ref04_IsStable : TH := mkTH [] []
theorem k_ref04_IsStable (x : denP e_ref04_IsStable.ps) : fnT Try.prog Hn.hints j_ref04_IsStable (tabT [e_ref04_Table]) 40 14 (ofPms e_ref04_IsStable.ps x) e_ref04_IsStable.rs = e_ref04_IsStable.F x := by kernel_rfl
theorem o_ref04_IsStable : EntryOk Try.prog Hn.hints Lb e_ref04_IsStable := entry_ok (tab_cons o_ref04_Table tab_nil) hJ 40 _ _ _ _ k_ref04_IsStable
def ref04_CopyLoop (a0 : ((List Int) × (List Int) × Int × Int × Unit)) : Option ((List Int) × (List Int) × Int × Int × Unit) :=
  (base_CopyInts a0.1).bind fun x1 =>
  (base_CopyInts a0.2.1).bind fun x2 =>
  some (x1, x2, a0.2.2.1, a0.2.2.2.1, ())
def e_ref04_CopyLoop : Entry := ⟨30, [.ty (.pair (.sl I) (.pair (.sl I) (.pair I (.pair I .unit))))], [((.pair (.sl I) (.pair (.sl I) (.pair I (.pair I .unit)))), 0)], fun x => ref04_CopyLoop x⟩
def j_ref04_CopyLoop : TH := mkTH [] []
theorem k_ref04_CopyLoop (x : denP e_ref04_CopyLoop.ps) : fnT Try.prog Hn.hints j_ref04_CopyLoop (tabT [e_base_CopyInts]) 40 30 (ofPms e_ref04_CopyLoop.ps x) e_ref04_CopyLoop.rs = e_ref04_CopyLoop.F x := by kernel_rfl
theorem o_ref04_CopyLoop : EntryOk Try.prog Hn.hints Lb e_ref04_CopyLoop := entry_ok (tab_cons o_base_CopyInts tab_nil) hJ 40 _ _ _ _ k_ref04_CopyLoop
def drive_loop_err_1 (a0 : Int) : Option Bool :=
  (drive_isSized a0 (1000 : Int)).bind fun x1 =>
  some (!x1)
def e_drive_loop_err_1 : Entry := ⟨92, [.ty I], [(.bool, 0)], fun x => drive_loop_err_1 x⟩
def j_drive_loop_err_1 : TH := mkTH [] []
theorem k_drive_loop_err_1 (x : denP e_drive_loop_err_1.ps) : fnT Try.prog Hn.hints j_drive_loop_err_1 (tabT [e_drive_isSized]) 40 92 (ofPms e_drive_loop_err_1.ps x) e_drive_loop_err_1.rs = e_drive_loop_err_1.F x := by kernel_rfl
theorem o_drive_loop_err_1 : EntryOk Try.prog Hn.hints Lb e_drive_loop_err_1 := entry_ok (tab_cons o_drive_isSized tab_nil) hJ 40 _ _ _ _ k_drive_loop_err_1
def drive_loop_at (a0 : ((List Int) × (List Int) × Int × Int × Unit)) (a1 : Int) : Option (List Int) :=
  (loopO (fun (s3 : ((List Int) × Int)) =>
      bif decide (s3.2 < (a0.1.length : Int)) then
        (idx a0.1 s3.2).bind fun x4 =>
        (idx a0.2.1 s3.2).bind fun x5 =>
        (app s3.1 ([w64 (x4 + (w64 (a1 * x5)))])).bind fun x6 =>
        some (.inl (x6, w64 (s3.2 + 1)))
      else
        some (.inr s3.1)) ([], 0)).bind fun (p7 : (List Int)) =>
  some p7
def e_drive_loop_at : Entry := ⟨64, [.ty (.pair (.sl I) (.pair (.sl I) (.pair I (.pair I .unit)))), .ty I], [((.sl I), 1)], fun x => drive_loop_at x.1 x.2⟩
def j_drive_loop_at : TH := mkTH [([], 64, .block 0, { lv := [⟨none, 5, 0⟩], ps := [((.sl I), 1)], D := ⟨536869088⟩ }),
  ([], 64, .loop 0, { lv := [⟨none, 5, 0⟩, ⟨none, 11, 0⟩], ps := [((.sl I), 1), (I, 0)], D := ⟨536869088⟩, rs := [⟨0, 2⟩], Dn := ⟨536344800⟩ })] []
theorem k_drive_loop_at (x : denP e_drive_loop_at.ps) : fnT Try.prog Hn.hints j_drive_loop_at (tabT []) 40 64 (ofPms e_drive_loop_at.ps x) e_drive_loop_at.rs = e_drive_loop_at.F x := by kernel_rfl
theorem o_drive_loop_at : EntryOk Try.prog Hn.hints Lb e_drive_loop_at := entry_ok tab_nil hJ 40 _ _ _ _ k_drive_loop_at
def drive_loop_err (a0 : ((List Int) × (List Int) × Int × Int × Unit)) : Option Int :=
  (bif decide (w64 (0 + (a0.1.length : Int)) < 0) then
      none
    else
      let v1 : Bool := decide (w64 ((w64 (0 + (a0.1.length : Int))) + (a0.2.1.length : Int)) < 0)
      bif v1 then
        none
      else
        let v2 : Bool := decide (w64 ((w64 (0 + (a0.1.length : Int))) + (a0.2.1.length : Int)) < 0)
        bif v2 then
          none
        else
          let v3 : Int := w64 ((w64 ((w64 (0 + (a0.1.length : Int))) + (a0.2.1.length : Int))) - 0)
          bif decide (v3 > 0) then
            bif (decide (0 < v3) && decide (v3 ≤ 4294967296)) then
              bif List.isEmpty a0.1 then
                bif List.isEmpty a0.2.1 then
                  ((loopO (fun (s5 : Int) =>
                        bif decide (s5 < 0) then
                          none
                        else
                          some (.inr (.inl ()))) 0).bind (Sum.elim (fun (p6 : Unit) =>
                    some (-1)) some)).bind fun (p7 : Int) =>
                  some (decide (p7 ≥ 0))
                else
                  (app [] a0.2.1).bind fun x8 =>
                  ((loopO (fun (s10 : Int) =>
                        bif decide (s10 < (x8.length : Int)) then
                          (idx x8 s10).bind fun x11 =>
                          (drive_loop_err_1 x11).bind fun x12 =>
                          bif x12 then
                            some (.inr (.inr s10))
                          else
                            some (.inl (w64 (s10 + 1)))
                        else
                          some (.inr (.inl ()))) 0).bind (Sum.elim (fun (p13 : Unit) =>
                    some (-1)) some)).bind fun (p14 : Int) =>
                  some (decide (p14 ≥ 0))
              else
                (app [] a0.1).bind fun x15 =>
                (app x15 a0.2.1).bind fun x16 =>
                ((loopO (fun (s18 : Int) =>
                      bif decide (s18 < (x16.length : Int)) then
                        (idx x16 s18).bind fun x19 =>
                        (drive_loop_err_1 x19).bind fun x20 =>
                        bif x20 then
                          some (.inr (.inr s18))
                        else
                          some (.inl (w64 (s18 + 1)))
                      else
                        some (.inr (.inl ()))) 0).bind (Sum.elim (fun (p21 : Unit) =>
                  some (-1)) some)).bind fun (p22 : Int) =>
                some (decide (p22 ≥ 0))
            else
              none
          else
            bif List.isEmpty a0.1 then
              bif List.isEmpty a0.2.1 then
                ((loopO (fun (s24 : Int) =>
                      bif decide (s24 < 0) then
                        none
                      else
                        some (.inr (.inl ()))) 0).bind (Sum.elim (fun (p25 : Unit) =>
                  some (-1)) some)).bind fun (p26 : Int) =>
                some (decide (p26 ≥ 0))
              else
                (app [] a0.2.1).bind fun x27 =>
                ((loopO (fun (s29 : Int) =>
                      bif decide (s29 < (x27.length : Int)) then
                        (idx x27 s29).bind fun x30 =>
                        (drive_loop_err_1 x30).bind fun x31 =>
                        bif x31 then
                          some (.inr (.inr s29))
                        else
                          some (.inl (w64 (s29 + 1)))
                      else
                        some (.inr (.inl ()))) 0).bind (Sum.elim (fun (p32 : Unit) =>
                  some (-1)) some)).bind fun (p33 : Int) =>
                some (decide (p33 ≥ 0))
            else
              (app [] a0.1).bind fun x34 =>
              (app x34 a0.2.1).bind fun x35 =>
              ((loopO (fun (s37 : Int) =>
                    bif decide (s37 < (x35.length : Int)) then
                      (idx x35 s37).bind fun x38 =>
                      (drive_loop_err_1 x38).bind fun x39 =>
                      bif x39 then
                        some (.inr (.inr s37))
                      else
                        some (.inl (w64 (s37 + 1)))
                    else
                      some (.inr (.inl ()))) 0).bind (Sum.elim (fun (p40 : Unit) =>
                some (-1)) some)).bind fun (p41 : Int) =>
              some (decide (p41 ≥ 0))).bind fun (p42 : Bool) =>
  (bif decide ((a0.1.length : Int) > 0) then
      (drive_unless (decide ((a0.2.1.length : Int) = (a0.1.length : Int))) (10 : Int)).bind fun x43 =>
      (drive_unless (decide ((a0.1.length : Int) ≤ 4)) (8 : Int)).bind fun x44 =>
      (drive_within a0.2.2.1 (0 : Int) (40 : Int)).bind fun x45 =>
      bif x45 then
        (drive_within a0.2.2.2.1 (0 : Int) (40 : Int)).bind fun x46 =>
        (drive_unless x46 (2 : Int)).bind fun x47 =>
        (drive_unless (decide (a0.2.2.1 ≤ a0.2.2.2.1)) (9 : Int)).bind fun x48 =>
        (drive_unless (!p42) (2 : Int)).bind fun x49 =>
        (drive_first ([x43, x44, x47, x48, x49])).bind fun x50 =>
        some x50
      else
        (drive_unless false (2 : Int)).bind fun x51 =>
        (drive_unless (decide (a0.2.2.1 ≤ a0.2.2.2.1)) (9 : Int)).bind fun x52 =>
        (drive_unless (!p42) (2 : Int)).bind fun x53 =>
        (drive_first ([x43, x44, x51, x52, x53])).bind fun x54 =>
        some x54
    else
      (drive_unless false (10 : Int)).bind fun x55 =>
      (drive_unless (decide ((a0.1.length : Int) ≤ 4)) (8 : Int)).bind fun x56 =>
      (drive_within a0.2.2.1 (0 : Int) (40 : Int)).bind fun x57 =>
      bif x57 then
        (drive_within a0.2.2.2.1 (0 : Int) (40 : Int)).bind fun x58 =>
        (drive_unless x58 (2 : Int)).bind fun x59 =>
        (drive_unless (decide (a0.2.2.1 ≤ a0.2.2.2.1)) (9 : Int)).bind fun x60 =>
        (drive_unless (!p42) (2 : Int)).bind fun x61 =>
        (drive_first ([x55, x56, x59, x60, x61])).bind fun x62 =>
        some x62
      else
        (drive_unless false (2 : Int)).bind fun x63 =>
        (drive_unless (decide (a0.2.2.1 ≤ a0.2.2.2.1)) (9 : Int)).bind fun x64 =>
        (drive_unless (!p42) (2 : Int)).bind fun x65 =>
        (drive_first ([x55, x56, x63, x64, x65])).bind fun x66 =>
        some x66).bind fun (p67 : Int) =>
  bif !(decide (p67 = 0)) then
    some p67
  else
    (loopO (fun (s69 : (Int × Int)) =>
        bif decide (s69.2 ≤ a0.2.2.2.1) then
          (drive_loop_at a0 s69.2).bind fun x70 =>
          (drive_polynomialErr x70).bind fun x71 =>
          (drive_first ([s69.1, x71])).bind fun x72 =>
          some (.inl (x72, w64 (s69.2 + 1)))
        else
          some (.inr s69.1)) (p67, a0.2.2.1)).bind fun (p73 : Int) =>
    some p73
def e_drive_loop_err : Entry := ⟨63, [.ty (.pair (.sl I) (.pair (.sl I) (.pair I (.pair I .unit))))], [(I, 0)], fun x => drive_loop_err x⟩
def j_drive_loop_err : TH := mkTH [([], 63, .region 2, { lv := [⟨none, 4, 0⟩], ps := [(.bool, 0)], D := ⟨65040⟩, rs := [⟨0, 1⟩], Dn := ⟨62480⟩ }),
  ([7, 15], 105, .inl 0, { lv := [⟨none, 4, 0⟩], ps := [(I, 0)], D := ⟨524272⟩ }),
  ([7, 15], 105, .block 0, { lv := [], ps := [], abn := true, D := ⟨524064⟩ }),
  ([7, 15], 105, .loop 0, { lv := [⟨none, 8, 0⟩], ps := [(I, 0)], D := ⟨524064⟩ }),
  ([], 63, .region 3, { lv := [⟨none, 5, 0⟩], ps := [(I, 0)], D := ⟨36028797018898464⟩, rs := [⟨0, 1⟩, ⟨0, 3⟩], Dn := ⟨35940250880442400⟩ }),
  ([], 63, .block 0, { lv := [⟨none, 5, 0⟩], ps := [(I, 0)], D := ⟨9443580044234683580512⟩, rs := [⟨0, 3⟩], Dn := ⟨9441274201225469886560⟩ }),
  ([], 63, .loop 0, { lv := [⟨none, 5, 0⟩, ⟨none, 6, 0⟩], ps := [(I, 0), (I, 0)], D := ⟨9443580044234683580512⟩, rs := [⟨0, 3⟩], Dn := ⟨9441274201225469886560⟩ })] [([], 63, 14), ([], 63, 15), ([14], 91, 24), ([15], 82, 7)]
theorem k_drive_loop_err (x : denP e_drive_loop_err.ps) : fnT Try.prog Hn.hints j_drive_loop_err (tabT [e_drive_first, e_drive_loop_at, e_drive_loop_err_1, e_drive_polynomialErr, e_drive_unless, e_drive_within]) 40 63 (ofPms e_drive_loop_err.ps x) e_drive_loop_err.rs = e_drive_loop_err.F x := by kernel_rfl
theorem o_drive_loop_err : EntryOk Try.prog Hn.hints Lb e_drive_loop_err := entry_ok (tab_cons o_drive_first (tab_cons o_drive_loop_at (tab_cons o_drive_loop_err_1 (tab_cons o_drive_polynomialErr (tab_cons o_drive_unless (tab_cons o_drive_within tab_nil)))))) hJ 40 _ _ _ _ k_drive_loop_err
def drive_FirstUnstable (a0 : ((List Int) × (List Int) × Int × Int × Unit)) : Option (Int × Int) :=
  (drive_loop_err a0).bind fun x1 =>
  bif !(decide (x1 = 0)) then
    some (0, x1)
  else
    (loopO (fun (s3 : Int) =>
        bif decide (s3 ≤ a0.2.2.2.1) then
          (drive_loop_at a0 s3).bind fun x4 =>
          (drive_isStable x4).bind fun x5 =>
          bif !x5 then
            some (.inr (.inr (s3, 0)))
          else
            some (.inl (w64 (s3 + 1)))
        else
          some (.inr (.inl ()))) a0.2.2.1).bind (Sum.elim (fun (p6 : Unit) =>
    some (0, 12)) some)
def e_drive_FirstUnstable : Entry := ⟨29, [.ty (.pair (.sl I) (.pair (.sl I) (.pair I (.pair I .unit))))], [(I, 0), (I, 0)], fun x => drive_FirstUnstable x⟩
def j_drive_FirstUnstable : TH := mkTH [([], 29, .block 0, { lv := [], ps := [], abn := true, D := ⟨536805440⟩, rs := [⟨0, 4⟩], Dn := ⟨536412224⟩ }),
  ([], 29, .loop 0, { lv := [⟨none, 6, 0⟩], ps := [(I, 0)], D := ⟨536805440⟩, rs := [⟨0, 4⟩], Dn := ⟨536412224⟩ })] []
theorem k_drive_FirstUnstable (x : denP e_drive_FirstUnstable.ps) : fnT Try.prog Hn.hints j_drive_FirstUnstable (tabT [e_drive_isStable, e_drive_loop_at, e_drive_loop_err]) 40 29 (ofPms e_drive_FirstUnstable.ps x) e_drive_FirstUnstable.rs = e_drive_FirstUnstable.F x := by kernel_rfl
theorem o_drive_FirstUnstable : EntryOk Try.prog Hn.hints Lb e_drive_FirstUnstable := entry_ok (tab_cons o_drive_isStable (tab_cons o_drive_loop_at (tab_cons o_drive_loop_err tab_nil))) hJ 40 _ _ _ _ k_drive_FirstUnstable
def drive_MarginOf (a0 : ((List Int) × (List Int) × Int × Int × Unit)) : Option (Int × Int) :=
  (drive_FirstUnstable a0).bind fun x1 =>
  bif decide (x1.2 = 12) then
    some (a0.2.2.2.1, 0)
  else
    bif !(decide (x1.2 = 0)) then
      some (0, x1.2)
    else
      bif decide (x1.1 = a0.2.2.1) then
        some (0, 12)
      else
        some (w64 (x1.1 - 1), 0)
def e_drive_MarginOf : Entry := ⟨31, [.ty (.pair (.sl I) (.pair (.sl I) (.pair I (.pair I .unit))))], [(I, 0), (I, 0)], fun x => drive_MarginOf x⟩
def j_drive_MarginOf : TH := mkTH [] []
theorem k_drive_MarginOf (x : denP e_drive_MarginOf.ps) : fnT Try.prog Hn.hints j_drive_MarginOf (tabT [e_drive_FirstUnstable]) 40 31 (ofPms e_drive_MarginOf.ps x) e_drive_MarginOf.rs = e_drive_MarginOf.F x := by kernel_rfl
theorem o_drive_MarginOf : EntryOk Try.prog Hn.hints Lb e_drive_MarginOf := entry_ok (tab_cons o_drive_FirstUnstable tab_nil) hJ 40 _ _ _ _ k_drive_MarginOf
def ref04_Of (a0 : ((List Int) × (List Int) × Int × Int × Unit)) (a1 : Int) : Option (List Int) :=
  (loopO (fun (s3 : ((List Int) × Int)) =>
      bif decide (s3.2 < (a0.1.length : Int)) then
        (idx a0.1 s3.2).bind fun x4 =>
        (idx a0.2.1 s3.2).bind fun x5 =>
        (app s3.1 ([w64 (x4 + (w64 (a1 * x5)))])).bind fun x6 =>
        some (.inl (x6, w64 (s3.2 + 1)))
      else
        some (.inr s3.1)) ([], 0)).bind fun (p7 : (List Int)) =>
  some p7
def e_ref04_Of : Entry := ⟨34, [.ty (.pair (.sl I) (.pair (.sl I) (.pair I (.pair I .unit)))), .ty I], [((.sl I), 1)], fun x => ref04_Of x.1 x.2⟩
def j_ref04_Of : TH := mkTH [([], 34, .block 0, { lv := [⟨none, 5, 0⟩], ps := [((.sl I), 1)], D := ⟨1073741792⟩, rs := [⟨0, 2⟩], Dn := ⟨1073741536⟩ }),
  ([], 34, .loop 0, { lv := [⟨none, 5, 0⟩, ⟨none, 6, 0⟩], ps := [((.sl I), 1), (I, 0)], D := ⟨1073741792⟩, rs := [⟨0, 2⟩], Dn := ⟨1071611616⟩ })] []
theorem k_ref04_Of (x : denP e_ref04_Of.ps) : fnT Try.prog Hn.hints j_ref04_Of (tabT []) 40 34 (ofPms e_ref04_Of.ps x) e_ref04_Of.rs = e_ref04_Of.F x := by kernel_rfl
theorem o_ref04_Of : EntryOk Try.prog Hn.hints Lb e_ref04_Of := entry_ok tab_nil hJ 40 _ _ _ _ k_ref04_Of
def ref04_LoopErr (a0 : ((List Int) × (List Int) × Int × Int × Unit)) : Option Int :=
  (bif decide ((a0.1.length : Int) = 0) then
      some true
    else
      some (!(decide ((a0.2.1.length : Int) = (a0.1.length : Int))))).bind fun (p1 : Bool) =>
  bif p1 then
    some 10
  else
    bif decide ((a0.1.length : Int) > 4) then
      some 8
    else
      ((base_Within a0.2.2.1 (0 : Int) (40 : Int)).bind fun x2 =>
        bif !x2 then
          some true
        else
          (base_Within a0.2.2.2.1 (0 : Int) (40 : Int)).bind fun x3 =>
          some (!x3)).bind fun (p4 : Bool) =>
      bif p4 then
        some 2
      else
        bif decide (a0.2.2.1 > a0.2.2.2.1) then
          some 9
        else
          (loopO (fun (s6 : Int) =>
              bif decide (s6 < (a0.1.length : Int)) then
                ((idx a0.1 s6).bind fun x7 =>
                  (base_Within x7 (-1000 : Int) (1000 : Int)).bind fun x8 =>
                  bif !x8 then
                    some true
                  else
                    (idx a0.2.1 s6).bind fun x9 =>
                    (base_Within x9 (-1000 : Int) (1000 : Int)).bind fun x10 =>
                    some (!x10)).bind fun (p11 : Bool) =>
                bif p11 then
                  some (.inr (.inr 2))
                else
                  some (.inl (w64 (s6 + 1)))
              else
                some (.inr (.inl ()))) 0).bind (Sum.elim (fun (p12 : Unit) =>
          (loopO (fun (s14 : Int) =>
              bif decide (s14 ≤ a0.2.2.2.1) then
                (ref04_Of a0 s14).bind fun x15 =>
                (ref04_PolynomialErr x15).bind fun x16 =>
                bif !(decide (x16 = 0)) then
                  some (.inr (.inr x16))
                else
                  some (.inl (w64 (s14 + 1)))
              else
                some (.inr (.inl ()))) a0.2.2.1).bind (Sum.elim (fun (p17 : Unit) =>
          some 0) some)) some)
def e_ref04_LoopErr : Entry := ⟨32, [.ty (.pair (.sl I) (.pair (.sl I) (.pair I (.pair I .unit))))], [(I, 0)], fun x => ref04_LoopErr x⟩
def j_ref04_LoopErr : TH := mkTH [([], 32, .region 1, { lv := [⟨none, 18, 0⟩], ps := [(.bool, 0)], D := ⟨524224⟩, rs := [⟨0, 1⟩], Dn := ⟨505728⟩ }),
  ([], 32, .region 5, { lv := [⟨none, 34, 0⟩], ps := [(.bool, 0)], D := ⟨34351349760⟩, rs := [⟨0, 1⟩], Dn := ⟨32715571200⟩ }),
  ([], 32, .block 0, { lv := [], ps := [], abn := true, D := ⟨36893483749372592136⟩, rs := [⟨0, 1⟩], Dn := ⟨36893474953279569928⟩ }),
  ([], 32, .loop 0, { lv := [⟨none, 3, 0⟩], ps := [(I, 0)], D := ⟨36893483749372592136⟩, rs := [⟨0, 1⟩], Dn := ⟨36748796815250292744⟩ }),
  ([], 32, .region 12, { lv := [⟨none, 64, 0⟩], ps := [(.bool, 0)], D := ⟨36892925197465681920⟩, rs := [⟨0, 1⟩], Dn := ⟨36748247059436404736⟩ }),
  ([], 32, .block 2, { lv := [], ps := [], abn := true, D := ⟨4835408130553337345998896⟩, rs := [⟨0, 1⟩], Dn := ⟨4833637243122261229043760⟩ }),
  ([], 32, .loop 2, { lv := [⟨none, 4, 0⟩], ps := [(I, 0)], D := ⟨4835408130553337345998896⟩, rs := [⟨0, 1⟩], Dn := ⟨4833637243122261229043760⟩ })] []
theorem k_ref04_LoopErr (x : denP e_ref04_LoopErr.ps) : fnT Try.prog Hn.hints j_ref04_LoopErr (tabT [e_base_Within, e_ref04_Of, e_ref04_PolynomialErr]) 40 32 (ofPms e_ref04_LoopErr.ps x) e_ref04_LoopErr.rs = e_ref04_LoopErr.F x := by kernel_rfl
theorem o_ref04_LoopErr : EntryOk Try.prog Hn.hints Lb e_ref04_LoopErr := entry_ok (tab_cons o_base_Within (tab_cons o_ref04_Of (tab_cons o_ref04_PolynomialErr tab_nil))) hJ 40 _ _ _ _ k_ref04_LoopErr
def ref04_FirstUnstable (a0 : ((List Int) × (List Int) × Int × Int × Unit)) : Option (Int × Bool) :=
  (loopO (fun (s2 : Int) =>
      bif decide (s2 ≤ a0.2.2.2.1) then
        (ref04_Of a0 s2).bind fun x3 =>
        (ref04_IsStable x3).bind fun x4 =>
        bif !x4 then
          some (.inr (.inr (s2, true)))
        else
          some (.inl (w64 (s2 + 1)))
      else
        some (.inr (.inl ()))) a0.2.2.1).bind (Sum.elim (fun (p5 : Unit) =>
  some (0, false)) some)
def e_ref04_FirstUnstable : Entry := ⟨33, [.ty (.pair (.sl I) (.pair (.sl I) (.pair I (.pair I .unit))))], [(I, 0), (.bool, 0)], fun x => ref04_FirstUnstable x⟩
def j_ref04_FirstUnstable : TH := mkTH [([], 33, .block 0, { lv := [], ps := [], abn := true, D := ⟨2096912⟩, rs := [⟨0, 1⟩], Dn := ⟨2095376⟩ }),
  ([], 33, .loop 0, { lv := [⟨none, 4, 0⟩], ps := [(I, 0)], D := ⟨2096912⟩, rs := [⟨0, 1⟩], Dn := ⟨2095376⟩ })] []
theorem k_ref04_FirstUnstable (x : denP e_ref04_FirstUnstable.ps) : fnT Try.prog Hn.hints j_ref04_FirstUnstable (tabT [e_ref04_IsStable, e_ref04_Of]) 40 33 (ofPms e_ref04_FirstUnstable.ps x) e_ref04_FirstUnstable.rs = e_ref04_FirstUnstable.F x := by kernel_rfl
theorem o_ref04_FirstUnstable : EntryOk Try.prog Hn.hints Lb e_ref04_FirstUnstable := entry_ok (tab_cons o_ref04_IsStable (tab_cons o_ref04_Of tab_nil)) hJ 40 _ _ _ _ k_ref04_FirstUnstable
def law04_DriveLoops (a0 : ((List Int) × (List Int) × Int × Int × Unit)) : Option Bool :=
  (law04_awake).bind fun x1 =>
  bif !x1 then
    some false
  else
    (bif decide ((a0.1.length : Int) > 6) then
        some true
      else
        some (decide ((a0.2.1.length : Int) > 6))).bind fun (p2 : Bool) =>
    bif p2 then
      some true
    else
      (ref04_CopyLoop a0).bind fun x3 =>
      (drive_FirstUnstable x3).bind fun x4 =>
      (ref04_CopyLoop a0).bind fun x5 =>
      (drive_MarginOf x5).bind fun x6 =>
      (ref04_LoopErr a0).bind fun x7 =>
      bif !(decide (x7 = 0)) then
        (bif decide (x4.2 = x7) then
            bif decide (x6.2 = x7) then
              bif decide (x4.1 = 0) then
                some (decide (x6.1 = 0))
              else
                some false
            else
              some false
          else
            some false).bind fun (p8 : Bool) =>
        some p8
      else
        (ref04_FirstUnstable a0).bind fun x9 =>
        (bif x9.2 then
            bif !(decide (x4.2 = 0)) then
              some true
            else
              bif !(decide (x4.1 = x9.1)) then
                some true
              else
                bif !x9.2 then
                  bif !(decide (x4.2 = 12)) then
                    some true
                  else
                    some (!(decide (x4.1 = 0)))
                else
                  some false
          else
            bif !x9.2 then
              bif !(decide (x4.2 = 12)) then
                some true
              else
                some (!(decide (x4.1 = 0)))
            else
              some false).bind fun (p10 : Bool) =>
        bif p10 then
          some false
        else
          (bif x9.2 then
              some (decide (x9.1 = a0.2.2.1))
            else
              some false).bind fun (p11 : Bool) =>
          bif p11 then
            (bif decide (x6.2 = 12) then
                some (decide (x6.1 = 0))
              else
                some false).bind fun (p12 : Bool) =>
            some p12
          else
            (bif !x9.2 then
                some (w64 (a0.2.2.2.1 + 1))
              else
                some x9.1).bind fun (p13 : Int) =>
            (bif !(decide (x6.2 = 0)) then
                some true
              else
                some (!(decide (x6.1 = w64 (p13 - 1))))).bind fun (p14 : Bool) =>
            bif p14 then
              some false
            else
              (ref04_Of a0 x6.1).bind fun x15 =>
              (drive_IsStable x15).bind fun x16 =>
              (bif decide (x16.2 = 0) then
                  some x16.1
                else
                  some false).bind fun (p17 : Bool) =>
              some p17
def e_law04_DriveLoops : Entry := ⟨6, [.ty (.pair (.sl I) (.pair (.sl I) (.pair I (.pair I .unit))))], [(.bool, 0)], fun x => law04_DriveLoops x⟩
def j_law04_DriveLoops : TH := mkTH [([], 6, .region 3, { lv := [⟨none, 23, 0⟩], ps := [(.bool, 0)], D := ⟨16760832⟩, rs := [⟨0, 1⟩], Dn := ⟨16220160⟩ }),
  ([], 6, .region 9, { lv := [⟨none, 2, 0⟩], ps := [(.bool, 0)], D := ⟨72056494526300164⟩ }),
  ([], 6, .region 11, { lv := [⟨none, 82, 0⟩], ps := [(.bool, 0)], D := ⟨9671404251074024183955456⟩ }),
  ([], 6, .region 13, { lv := [⟨none, 90, 0⟩], ps := [(.bool, 0)], D := ⟨2466208672013843516400599040⟩, rs := [⟨0, 1⟩], Dn := ⟨2234094914647834714857013248⟩ }),
  ([], 6, .region 14, { lv := [⟨none, 2, 0⟩], ps := [(.bool, 0)], D := ⟨155980444949957914637289652228⟩ }),
  ([], 6, .cond 98, { lv := [⟨none, 8, 0⟩], ps := [(I, 0)], D := ⟨9507379501711720511225274040576⟩, rs := [⟨0, 1⟩], Dn := ⟨7605903601369376408980219232512⟩ }),
  ([], 6, .region 17, { lv := [⟨none, 110, 0⟩], ps := [(.bool, 0)], D := ⟨2586007224465587979053274538967040⟩ }),
  ([], 6, .region 20, { lv := [⟨none, 2, 0⟩], ps := [(.bool, 0)], D := ⟨10301516967333098015004504717172670468⟩ })] []
theorem k_law04_DriveLoops (x : denP e_law04_DriveLoops.ps) : fnT Try.prog Hn.hints j_law04_DriveLoops (tabT [e_drive_FirstUnstable, e_drive_IsStable, e_drive_MarginOf, e_law04_awake, e_ref04_CopyLoop, e_ref04_FirstUnstable, e_ref04_LoopErr, e_ref04_Of]) 40 6 (ofPms e_law04_DriveLoops.ps x) e_law04_DriveLoops.rs = e_law04_DriveLoops.F x := by kernel_rfl
theorem o_law04_DriveLoops : EntryOk Try.prog Hn.hints Lb e_law04_DriveLoops := entry_ok (tab_cons o_drive_FirstUnstable (tab_cons o_drive_IsStable (tab_cons o_drive_MarginOf (tab_cons o_law04_awake (tab_cons o_ref04_CopyLoop (tab_cons o_ref04_FirstUnstable (tab_cons o_ref04_LoopErr (tab_cons o_ref04_Of tab_nil)))))))) hJ 40 _ _ _ _ k_law04_DriveLoops
end
end Go.Proofs.Ytbcdgfgacigaoaa
end
section
set_option linter.unusedVariables false
set_option linter.unusedSimpArgs false
namespace Go.Proofs.Ytbcdgfgacigaoaa
open Go Go.Ab Go.Tx
theorem wid {n : Int} (h1 : -9223372036854775808 ≤ n) (h2 : n ≤ 9223372036854775807) : w64 n = n := wrap_id h1 h2
theorem Within_ok (a b c : Int) : base_Within a b c = some (decide (b ≤ a ∧ a ≤ c)) := by
  unfold base_Within
  by_cases h1 : b ≤ a <;> by_cases h2 : a ≤ c <;> simp [h1, h2]
theorem within_ok (a b c : Int) : drive_within a b c = some (decide (b ≤ a ∧ a ≤ c)) := by
  unfold drive_within
  by_cases h1 : b ≤ a <;> by_cases h2 : a ≤ c <;> simp [h1, h2]
theorem isSized_ok (a k : Int) (h0 : -4611686018427387904 ≤ k) (h1 : k ≤ 4611686018427387904) : drive_isSized a k = some (decide (-k ≤ a ∧ a ≤ k)) := by
  unfold drive_isSized
  rw [wid (by omega) (by omega), within_ok]
  simp only [Option.bind_some]
  congr 2
  simp
theorem unless_eq (b : Bool) (e : Int) : drive_unless b e = some (if b then 0 else e) := by cases b <;> rfl
theorem first_eq (l : List Int) (h : l.length ≤ 1000000000) : drive_first l = some (fst0 l) := by
  unfold drive_first; exact for_first l h
theorem CopyInts_ok {l : List Int} (h : l.length ≤ 1000000000) : base_CopyInts l = some l := by
  unfold base_CopyInts
  rw [app_nil (by omega)]; rfl
theorem Size_ok {n : Int} (h : -9223372036854775807 ≤ n ∧ n ≤ 9223372036854775807) : base_Size n = some (n.natAbs : Int) := by
  unfold base_Size
  rw [wid (by omega) (by omega)]; congr 1; omega
theorem Gcd_ok {a b : Int} (ha : a.natAbs ≤ 4611686018427387904) (hb : b.natAbs ≤ 4611686018427387904) : base_Gcd a b = some (Int.gcd a b : Int) := by
  unfold base_Gcd
  refine Ok.eq ?_
  rw [ok_bind]
  refine (Gcd_loop a b ha hb).mono fun r hr => ?_
  have := gcd_le ha hb
  rw [Size_ok (by omega)]
  simp only [Option.bind_some, ok_some]
  omega
theorem divisor_ok (l : List Int) (hl : l.length ≤ 1000000000) (hb : ∀ x ∈ l, x.natAbs ≤ 4611686018427387904) : drive_divisor l = some (gcdL l : Int) := by
  unfold drive_divisor; exact divisor_loop l hl hb
def bad1000 (n : Int) : Bool := !(decide (-1000 ≤ n ∧ n ≤ 1000))
def polyE (p : List Int) : Int := if p.length = 0 then 10 else if 4 < p.length then 8 else if p.any bad1000 then 2 else if p.getD 0 0 = 0 then 11 else 0
theorem polynomialErr_ok {p : List Int} (h : p.length ≤ 1000000000) : drive_polynomialErr p = some (polyE p) := by
  unfold drive_polynomialErr
  have hc : slices_ContainsFunc_Lint_int_of_drive_polynomialErr_1 p = some (p.any bad1000) := by
    unfold slices_ContainsFunc_Lint_int_of_drive_polynomialErr_1 slices_IndexFunc_Lint_int_of_drive_polynomialErr_1
    refine for_any p drive_polynomialErr_1 bad1000 (fun x _ => ?_) h
    unfold drive_polynomialErr_1
    rw [isSized_ok _ _ (by omega) (by omega)]; rfl
  rw [hc]
  simp only [unless_eq, Option.bind_some]
  rw [first_eq _ (by simp)]
  simp only [Option.bind_some]
  unfold polyE
  by_cases h0 : p.length = 0
  · have h0' : ¬ ((p.length : Int) > 0) := by omega
    simp [h0, fst0]
  · have h0' : (p.length : Int) > 0 := by omega
    by_cases h4 : 4 < p.length
    · have h4' : ¬ ((p.length : Int) ≤ 4) := by omega
      simp [h0, h0', h4, h4', fst0]
    · have h4' : (p.length : Int) ≤ 4 := by omega
      simp only [h0, h0', h4, h4', decide_true, if_true, if_false, fst0, Bool.not_true, cond_false]
      rw [idx_int (by omega) (by omega)]
      simp only [Option.bind_some, Int.toNat_zero]
      rw [first_eq _ (by simp)]
      generalize p.getD 0 0 = z
      cases hb : p.any bad1000
      · by_cases hz : z = 0
        · simp [fst0, hz]
        · simp [fst0, hz]
      · simp [fst0]
theorem refPolynomialErr_ok {p : List Int} (h : p.length ≤ 1000000000) : ref04_PolynomialErr p = some (polyE p) := by
  unfold ref04_PolynomialErr polyE
  by_cases h0 : p.length = 0
  · simp [h0]
  have h0' : ¬ ((p.length : Int) = 0) := by omega
  by_cases h4 : 4 < p.length
  · have h4' : (p.length : Int) > 4 := by omega
    simp [h0, h0', h4, h4']
  have h4' : ¬ ((p.length : Int) > 4) := by omega
  simp only [h0, h0', h4, h4', decide_false, cond_false, if_false]
  rw [for_find p _ (fun _ a => if bad1000 a then some (2 : Int) else none) (fun i a hi => by
    have := len_lt hi
    rw [idx_of hi]
    simp only [Option.bind_some]
    rw [Within_ok]
    simp only [Option.bind_some]
    unfold bad1000
    by_cases c : -1000 ≤ a ∧ a ≤ 1000
    · simp only [c, and_self, decide_true, Bool.not_true, cond_false, Bool.false_eq_true, if_false, stp]; rw [wid (by omega) (by omega)]
    · simp [c, stp]), elim_toSum]
  cases hf : findI (fun _ a => if bad1000 a then some (2 : Int) else none) 0 p with
  | none =>
    rw [findI_none] at hf
    have hb : p.any bad1000 = false := by
      rw [List.any_eq_false]
      intro x hx
      obtain ⟨i, hi⟩ := List.mem_iff_getElem?.1 hx
      have := hf i x hi
      simpa using this
    simp only
    rw [idx_int (by omega) (by omega)]
    simp only [Int.toNat_zero, Option.bind_some]
    generalize p.getD 0 0 = z
    by_cases hz : z = 0 <;> simp [hb, hz]
  | some r =>
    obtain ⟨i, a, h1, h2, _⟩ := findI_some hf
    have hp : bad1000 a = true := by
      cases hp : bad1000 a
      · simp [hp] at h2
      · rfl
    have hb : p.any bad1000 = true := List.any_eq_true.2 ⟨a, List.mem_of_getElem? h1, hp⟩
    simp [hp] at h2
    simp [hb, ← h2]
theorem poly_ok {p : List Int} (h : polyE p = 0) : 1 ≤ p.length ∧ p.length ≤ 4 ∧ (∀ x ∈ p, -1000 ≤ x ∧ x ≤ 1000) ∧ p.getD 0 0 ≠ 0 := by
  unfold polyE at h
  by_cases h0 : p.length = 0
  · rw [if_pos h0] at h; omega
  rw [if_neg h0] at h
  by_cases h4 : 4 < p.length
  · rw [if_pos h4] at h; omega
  rw [if_neg h4] at h
  cases hb : p.any bad1000
  · rw [hb] at h
    by_cases hz : p.getD 0 0 = 0
    · rw [if_neg (by simp), if_pos hz] at h; omega
    · refine ⟨by omega, by omega, fun x hx => ?_, hz⟩
      rw [List.any_eq_false] at hb
      have := hb x hx
      simp [bad1000] at this
      omega
  · rw [hb] at h; simp at h
def sg (p : List Int) : Int := if p.getD 0 0 < 0 then -(gcdL p : Int) else gcdL p
def red (p : List Int) : List Int := p.map fun x => x.tdiv (sg p)
theorem gcdL_le {l : List Int} {B : Nat} (h : ∀ x ∈ l, x.natAbs ≤ B) : gcdL l ≤ B := gcdF_le (by omega) h
theorem gcdL_ne {l : List Int} (hl : l ≠ []) (h : l.getD 0 0 ≠ 0) : gcdL l ≠ 0 := fun h0 => by
  have := (gcdF_zero.1 h0).2
  exact h (this _ (getD_mem (List.length_pos_iff.2 hl)))
theorem sg_ne {p : List Int} (hl : p ≠ []) (h : p.getD 0 0 ≠ 0) : sg p ≠ 0 := by
  have := gcdL_ne hl h
  unfold sg; split <;> omega
theorem red_len (p : List Int) : (red p).length = p.length := by simp [red]
theorem tdiv_abs (x g : Int) : (x.tdiv g).natAbs ≤ x.natAbs := by rw [Int.natAbs_tdiv]; exact Nat.div_le_self _ _
theorem low_loop {p : List Int} {g : Int} (hg : g ≠ 0) (hl : p.length ≤ 1000) (hb : ∀ x ∈ p, x.natAbs ≤ 1000000000000000) :
    loopO (fun (s6 : ((List Int) × Int)) =>
      bif decide (s6.2 < (p.length : Int)) then
        (idx p s6.2).bind fun x7 =>
        bif decide (g = 0) then
          none
        else
          (app s6.1 ([w64 (x7.tdiv g)])).bind fun x8 =>
          some (.inl (x8, w64 (s6.2 + 1)))
      else
        some (.inr s6.1)) ([], 0) = some (p.map fun x => x.tdiv g) := by
  refine for_map p _ (fun i a out hi ho => ?_) (fun out ho => by simp)
  have hlt := len_lt hi
  have e0 : decide ((i : Int) < (p.length : Int)) = true := by simp <;> omega
  simp only [e0, cond_true]
  rw [idx_of hi]
  simp only [Option.bind_some, hg, decide_false, cond_false]
  have h1 := tdiv_abs a g
  have h2 := hb a (List.mem_of_getElem? hi)
  rw [app_one (by omega), wid (by omega) (by omega), wid (by omega) (by omega)]
  rfl
theorem lowest_ok {p : List Int} (hl : p ≠ []) (h : p.getD 0 0 ≠ 0) (hl2 : p.length ≤ 1000) (hb : ∀ x ∈ p, x.natAbs ≤ 1000000000000000) : drive_lowest p = some (red p) := by
  unfold drive_lowest
  rw [divisor_ok p (by omega) (fun x hx => Nat.le_trans (hb x hx) (by omega))]
  have hp := List.length_pos_iff.2 hl
  have hg := gcdL_le (fun x hx => hb x hx)
  simp only [Option.bind_some]
  rw [idx_int (by omega) (by omega)]
  simp only [Option.bind_some, Int.toNat_zero]
  have e : (bif decide (p.getD 0 0 < 0) then some (w64 (0 - (gcdL p : Int))) else some (gcdL p : Int)) = some (sg p) := by
    unfold sg
    by_cases c : p.getD 0 0 < 0
    · rw [if_pos c]; simp only [c, decide_true, cond_true]; rw [wid (by omega) (by omega)]; congr 1; omega
    · rw [if_neg c]; simp only [c, decide_false, cond_false]
  rw [e]
  simp only [Option.bind_some]
  rw [low_loop (sg_ne hl h) hl2 hb]
  rfl
theorem reduced_ok {p : List Int} (hl : p ≠ []) (h : p.getD 0 0 ≠ 0) (hl2 : p.length ≤ 1000) (hb : ∀ x ∈ p, x.natAbs ≤ 1000000000000000) : ref04_reduced p = some (red p) := by
  unfold ref04_reduced
  refine Ok.eq ?_
  rw [ok_bind]
  refine (loop_up p.length (fun i (s : Int × Int) => s = ((gcdL (p.take i) : Int), (i : Int))) (fun r : Int => r = gcdL p) rfl ?_).mono ?_
  · rintro i s hi rfl
    by_cases hlt : i < p.length
    · have e0 : decide ((i : Int) < (p.length : Int)) = true := by simp <;> omega
      simp only [e0, cond_true]
      rw [idx_int (by omega) (by omega)]
      simp only [Option.bind_some, Int.toNat_natCast]
      have h1 : gcdL (p.take i) ≤ 1000000000000000 := gcdL_le fun x hx => hb x (List.mem_of_mem_take hx)
      have h2 := hb _ (getD_mem (d := 0) hlt)
      rw [Gcd_ok (by omega) (by omega)]
      simp only [Option.bind_some]
      rw [wid (by omega) (by omega), rnd_inl]
      refine ⟨hlt, ?_⟩
      rw [take_next 0 hlt]
      unfold gcdL
      rw [gcdF_snoc]
      rfl
    · have : i = p.length := by omega
      subst this
      have e0 : decide ((p.length : Int) < (p.length : Int)) = false := by simp
      simp only [e0, cond_false]
      rw [rnd_inr]
      simp
  rintro _ rfl
  have hp := List.length_pos_iff.2 hl
  have hg := gcdL_le (fun x hx => hb x hx)
  rw [idx_int (by omega) (by omega)]
  simp only [Option.bind_some, Int.toNat_zero]
  have e : (bif decide (p.getD 0 0 < 0) then some (w64 (0 - (gcdL p : Int))) else some (gcdL p : Int)) = some (sg p) := by
    unfold sg
    by_cases c : p.getD 0 0 < 0
    · rw [if_pos c]; simp only [c, decide_true, cond_true]; rw [wid (by omega) (by omega)]; congr 1; omega
    · rw [if_neg c]; simp only [c, decide_false, cond_false]
  rw [e]
  simp only [Option.bind_some]
  rw [low_loop (sg_ne hl h) hl2 hb]
  simp [ok_some, red]
theorem red_getD (p : List Int) (k : Nat) : (red p).getD k 0 = (p.getD k 0).tdiv (sg p) := by
  unfold red
  by_cases h : k < p.length
  · simp [h]
  · simp; rw [List.getElem?_eq_none (by omega)]; simp
theorem gcdL_dvd {l : List Int} {x : Int} (h : x ∈ l) : (gcdL l : Int) ∣ x := gcdF_dvd h
theorem red_first {p : List Int} (hl : p ≠ []) (h : p.getD 0 0 ≠ 0) : 0 < (red p).getD 0 0 := by
  rw [red_getD]
  obtain ⟨q, hq⟩ := gcdL_dvd (getD_mem (d := 0) (List.length_pos_iff.2 hl))
  have hg := gcdL_ne hl h
  unfold sg
  by_cases c : p.getD 0 0 < 0
  · rw [if_pos c, hq, Int.tdiv_neg, Int.mul_tdiv_cancel_left _ (by omega)]
    rw [hq] at c
    rcases Int.lt_or_le q 0 with h1 | h1
    · omega
    · have := Int.mul_nonneg (show (0 : Int) ≤ gcdL p by omega) h1; omega
  · rw [if_neg c, hq, Int.mul_tdiv_cancel_left _ (by omega)]
    rw [hq] at c h
    rcases Int.lt_trichotomy q 0 with h1 | h1 | h1
    · have := Int.mul_neg_of_pos_of_neg (show (0 : Int) < gcdL p by omega) h1; omega
    · subst h1; simp at h
    · exact h1
def stpR (r : List Int) : List Int := mkL (r.length - 1) fun j => r.getD 0 0 * r.getD j 0 - r.getD (r.length - 1) 0 * r.getD (r.length - 1 - j) 0
def goes (r : List Int) : Prop := 1 < r.length ∧ (r.getD (r.length - 1) 0).natAbs < r.getD 0 0
instance (r : List Int) : Decidable (goes r) := inferInstanceAs (Decidable (_ ∧ _))
def tabR : Nat → List Int → List (List Int)
  | 0, _ => []
  | k + 1, r => if goes r then (if r.length = 2 then [[1]] else red (stpR r) :: tabR k (red (stpR r))) else []
def tab (p : List Int) : List (List Int) := red p :: tabR 3 (red p)
def bd (n : Nat) : Int := if 4 ≤ n then 1000 else if n = 3 then 2000000 else 8000000000000
structure Good (r : List Int) : Prop where
  len1 : 1 ≤ r.length
  len4 : r.length ≤ 4
  pos : 0 < r.getD 0 0
  bound : ∀ x ∈ r, -bd r.length ≤ x ∧ x ≤ bd r.length
theorem bd_le (n : Nat) : bd n ≤ 8000000000000 ∧ 1000 ≤ bd n := by
  unfold bd
  by_cases h : 4 ≤ n
  · rw [if_pos h]; omega
  · rw [if_neg h]
    by_cases h3 : n = 3
    · rw [if_pos h3]; omega
    · rw [if_neg h3]; omega
theorem Good.all {r : List Int} (h : Good r) : ∀ x ∈ r, x.natAbs ≤ 1000000000000000 := fun x hx => by
  have := h.bound x hx; have := bd_le r.length; omega
theorem Good.get {r : List Int} (h : Good r) (k : Nat) : -bd r.length ≤ r.getD k 0 ∧ r.getD k 0 ≤ bd r.length := by
  by_cases hk : k < r.length
  · exact h.bound _ (getD_mem hk)
  · have e : r.getD k 0 = 0 := by simp; rw [List.getElem?_eq_none (by omega)]; rfl
    have := bd_le r.length
    rw [e]; omega
theorem red_mem {p : List Int} {x : Int} (h : x ∈ red p) : ∃ y ∈ p, x.natAbs ≤ y.natAbs := by
  obtain ⟨y, hy, rfl⟩ := List.mem_map.1 h
  exact ⟨y, hy, tdiv_abs _ _⟩
theorem Good.ofPoly {p : List Int} (h : polyE p = 0) : Good (red p) := by
  obtain ⟨h1, h2, h3, h4⟩ := poly_ok h
  have hp : p ≠ [] := fun e => by rw [e] at h1; simp at h1
  refine ⟨by rw [red_len]; exact h1, by rw [red_len]; exact h2, red_first hp h4, fun x hx => ?_⟩
  obtain ⟨y, hy, hxy⟩ := red_mem hx
  have := h3 y hy
  have := bd_le (red p).length
  omega
theorem stpR_len (r : List Int) : (stpR r).length = r.length - 1 := mkL_len _ _
theorem Good.bd2 {r : List Int} (h : Good r) (h3 : 3 ≤ r.length) (i j : Nat) : -(2000000 * 2000000) ≤ r.getD i 0 * r.getD j 0 ∧ r.getD i 0 * r.getD j 0 ≤ 2000000 * 2000000 := by
  have hi := h.get i
  have hj := h.get j
  have hb : bd r.length ≤ 2000000 := by
    unfold bd
    by_cases h4 : 4 ≤ r.length
    · rw [if_pos h4]; omega
    · rw [if_neg h4, if_pos (by omega)]; omega
  exact abs_mul_le (by omega) (by omega)
theorem Good.step {r : List Int} (h : Good r) (h3 : 3 ≤ r.length) (hg : goes r) : Good (red (stpR r)) ∧ (stpR r).getD 0 0 ≠ 0 ∧ stpR r ≠ [] ∧ ∀ x ∈ stpR r, x.natAbs ≤ 1000000000000000 := by
  have hl := stpR_len r
  have h4 := h.len4
  have e0 : (stpR r).getD 0 0 = r.getD 0 0 * r.getD 0 0 - r.getD (r.length - 1) 0 * r.getD (r.length - 1) 0 := mkL_getD _ 0 (by omega)
  have hpos : 0 < (stpR r).getD 0 0 := by
    rw [e0]
    obtain ⟨_, hlt⟩ := hg
    generalize r.getD (r.length - 1) 0 = b at *
    have hp := h.pos
    generalize r.getD 0 0 = a at *
    have f1 : a * a - b * b = (a - b) * (a + b) := by grind
    rw [f1]
    exact Int.mul_pos (by omega) (by omega)
  have hne : stpR r ≠ [] := fun e => by rw [e] at hl; simp at hl; omega
  have hb : ∀ x ∈ stpR r, -bd (r.length - 1) ≤ x ∧ x ≤ bd (r.length - 1) := fun x hx => by
    obtain ⟨j, hj, rfl⟩ := mkL_mem hx
    by_cases hl4 : r.length = 4
    · have g0 := h.get 0
      have g1 := h.get j
      have g2 := h.get (r.length - 1)
      have g3 := h.get (r.length - 1 - j)
      have e1 : bd r.length = 1000 := by rw [hl4]; rfl
      have e2 : bd (r.length - 1) = 2000000 := by rw [hl4]; rfl
      rw [e1] at g0 g1 g2 g3
      have m1 := abs_mul_le g0 g1
      have m2 := abs_mul_le g2 g3
      rw [e2]; omega
    · have e2 : bd (r.length - 1) = 8000000000000 := by
        have : r.length = 3 := by omega
        rw [this]; rfl
      have m1 := h.bd2 h3 0 j
      have m2 := h.bd2 h3 (r.length - 1) (r.length - 1 - j)
      rw [e2]; omega
  refine ⟨⟨by rw [red_len]; omega, by rw [red_len]; omega, red_first hne (by omega), fun x hx => ?_⟩, by omega, hne, fun x hx => ?_⟩
  · obtain ⟨y, hy, hxy⟩ := red_mem hx
    have := hb y hy
    rw [red_len, hl]
    have := bd_le (r.length - 1)
    omega
  · have := hb x hx
    have := bd_le (r.length - 1)
    omega
theorem tab_loop {f : List Int × List (List Int) → Option ((List Int × List (List Int)) ⊕ (List (List Int) ⊕ List (List Int)))}
    (hf : ∀ r out, Good r → out.length ≤ 1000 → f (r, out) = if goes r then (if r.length = 2 then some (.inr (.inr (out ++ [[1]]))) else some (.inl (red (stpR r), out ++ [red (stpR r)]))) else some (.inr (.inl out))) :
    ∀ (k : Nat) (r : List Int) (out : List (List Int)), Good r → r.length ≤ k + 1 → out.length + k ≤ 1000 → (loopO f (r, out)).bind (Sum.elim some some) = some (out ++ tabR k r)
  | 0, r, out, hr, hk, ho => by
    have := hf r out hr (by omega)
    rw [if_neg (fun h => by have := h.1; omega)] at this
    rw [loopO_inr this]; simp [tabR]
  | k + 1, r, out, hr, hk, ho => by
    have := hf r out hr (by omega)
    by_cases hg : goes r
    · rw [if_pos hg] at this
      by_cases h2 : r.length = 2
      · rw [if_pos h2] at this
        rw [loopO_inr this]; simp [tabR, hg, h2]
      · rw [if_neg h2] at this
        have h3 : 3 ≤ r.length := by have := hg.1; omega
        obtain ⟨hs, _⟩ := hr.step h3 hg
        rw [loopO_inl this, tab_loop hf k _ _ hs (by rw [red_len, stpR_len]; omega) (by simp; omega)]
        simp [tabR, hg, h2]
    · rw [if_neg hg] at this
      rw [loopO_inr this]; simp [tabR, hg]
theorem stp_loop {r : List Int} (hr : Good r) (h3 : 3 ≤ r.length) :
    loopO (fun (s10 : ((List Int) × Int)) =>
      bif decide (s10.2 < ((r.length - 1 : Nat) : Int)) then
        (idx r s10.2).bind fun x12 =>
        (idx r (w64 (((r.length - 1 : Nat) : Int) - s10.2))).bind fun x14 =>
        (app s10.1 ([w64 ((w64 (r.getD 0 0 * x12)) - (w64 (r.getD (r.length - 1) 0 * x14)))])).bind fun x15 =>
        some (.inl (x15, w64 (s10.2 + 1)))
      else
        some (.inr s10.1)) ([], 0) = some (stpR r) := by
  have h4 := hr.len4
  refine for_mk (r.length - 1) _ (fun i hi => ?_) (by simp)
  have e0 : decide ((i : Int) < ((r.length - 1 : Nat) : Int)) = true := by simp <;> omega
  simp only [e0, cond_true]
  have e2 : w64 (((r.length - 1 : Nat) : Int) - (i : Int)) = ((r.length - 1 - i : Nat) : Int) := by rw [wid (by omega) (by omega)]; omega
  rw [e2, idx_int (by omega) (by omega), idx_int (by omega) (by omega)]
  simp only [Option.bind_some, Int.toNat_natCast]
  have m1 := hr.bd2 h3 0 i
  have m2 := hr.bd2 h3 (r.length - 1) (r.length - 1 - i)
  rw [app_one (by rw [mkL_len]; omega), wid (n := r.getD 0 0 * r.getD i 0) (by omega) (by omega), wid (n := r.getD (r.length - 1) 0 * r.getD (r.length - 1 - i) 0) (by omega) (by omega), wid (by omega) (by omega), wid (by omega) (by omega)]
  rfl
theorem goes_iff {r : List Int} (hr : Good r) (h : 1 < r.length) : (-(r.getD 0 0 - 1) ≤ r.getD (r.length - 1) 0 ∧ r.getD (r.length - 1) 0 ≤ r.getD 0 0 - 1) ↔ goes r := by
  unfold goes; omega
theorem table_ok {p : List Int} (h : polyE p = 0) : drive_table p = some (tab p) := by
  obtain ⟨h1, h2, h3, h4⟩ := poly_ok h
  have hp : p ≠ [] := fun e => by rw [e] at h1; simp at h1
  unfold drive_table
  rw [lowest_ok hp h4 (by omega) (fun x hx => by have := h3 x hx; omega)]
  simp only [Option.bind_some]
  refine (tab_loop ?_ 3 (red p) [red p] (Good.ofPoly h) (by rw [red_len]; omega) (by simp)).trans (by simp [tab])
  intro r out hr ho
  have hl4 := hr.len4
  have hbd := bd_le r.length
  by_cases hl : 1 < r.length
  · have e0 : decide ((r.length : Int) > 1) = true := by simp <;> omega
    have e1 : w64 ((r.length : Int) - 1) = ((r.length - 1 : Nat) : Int) := by rw [wid (by omega) (by omega)]; omega
    have g0 := hr.get 0
    simp only [e0, cond_true]
    rw [e1, idx_int (by omega) (by omega), idx_int (by omega) (by omega)]
    simp only [Option.bind_some, Int.toNat_natCast, Int.toNat_zero]
    rw [wid (by omega) (by omega), isSized_ok _ _ (by omega) (by omega)]
    simp only [Option.bind_some]
    by_cases hg : goes r
    · have e2 := (goes_iff hr hl).2 hg
      rw [if_pos hg]
      simp only [e2, and_self, decide_true, Bool.not_true, cond_false]
      by_cases h2' : r.length = 2
      · have e3 : decide (((r.length - 1 : Nat) : Int) = 1) = true := by simp <;> omega
        rw [if_pos h2']
        simp only [e3, cond_true]
        rw [app_one (by omega)]; rfl
      · have e3 : decide (((r.length - 1 : Nat) : Int) = 1) = false := by simp <;> omega
        rw [if_neg h2']
        simp only [e3, cond_false]
        have h3' : 3 ≤ r.length := by omega
        rw [stp_loop hr h3']
        obtain ⟨_, s1, s2, s3⟩ := hr.step h3' hg
        simp only [Option.bind_some]
        rw [lowest_ok s2 s1 (by rw [stpR_len]; omega) s3]
        simp only [Option.bind_some]
        rw [app_one (by omega)]; rfl
    · have e2 : ¬ (-(r.getD 0 0 - 1) ≤ r.getD (r.length - 1) 0 ∧ r.getD (r.length - 1) 0 ≤ r.getD 0 0 - 1) := fun h => hg ((goes_iff hr hl).1 h)
      rw [if_neg hg]
      simp only [e2, decide_false, Bool.not_false, cond_true]
  · have e0 : decide ((r.length : Int) > 1) = false := by simp <;> omega
    rw [if_neg (fun h => hl h.1)]
    simp only [e0, cond_false]
theorem refTable_ok {p : List Int} (h : polyE p = 0) : ref04_Table p = some (tab p) := by
  obtain ⟨h1, h2, h3, h4⟩ := poly_ok h
  have hp : p ≠ [] := fun e => by rw [e] at h1; simp at h1
  unfold ref04_Table
  rw [reduced_ok hp h4 (by omega) (fun x hx => by have := h3 x hx; omega)]
  simp only [Option.bind_some]
  refine (tab_loop ?_ 3 (red p) [red p] (Good.ofPoly h) (by rw [red_len]; omega) (by simp)).trans (by simp [tab])
  intro r out hr ho
  have hl4 := hr.len4
  have hbd := bd_le r.length
  by_cases hl : 1 < r.length
  · have e0 : decide ((r.length : Int) > 1) = true := by simp <;> omega
    have e1 : w64 ((r.length : Int) - 1) = ((r.length - 1 : Nat) : Int) := by rw [wid (by omega) (by omega)]; omega
    have g0 := hr.get 0
    have g1 := hr.get (r.length - 1)
    simp only [e0, cond_true]
    rw [e1, idx_int (by omega) (by omega), idx_int (by omega) (by omega)]
    simp only [Option.bind_some, Int.toNat_natCast, Int.toNat_zero]
    rw [Size_ok (by omega)]
    simp only [Option.bind_some]
    by_cases hg : goes r
    · have e2 : decide (((r.getD (r.length - 1) 0).natAbs : Int) < r.getD 0 0) = true := by simp only [decide_eq_true_iff]; exact hg.2
      rw [if_pos hg]
      simp only [e2, cond_true]
      by_cases h2' : r.length = 2
      · have e3 : decide (((r.length - 1 : Nat) : Int) = 1) = true := by simp <;> omega
        rw [if_pos h2']
        simp only [e3, cond_true]
        rw [app_one (by omega)]; rfl
      · have e3 : decide (((r.length - 1 : Nat) : Int) = 1) = false := by simp <;> omega
        rw [if_neg h2']
        simp only [e3, cond_false]
        have h3' : 3 ≤ r.length := by omega
        rw [stp_loop hr h3']
        obtain ⟨_, s1, s2, s3⟩ := hr.step h3' hg
        simp only [Option.bind_some]
        rw [reduced_ok s2 s1 (by rw [stpR_len]; omega) s3]
        simp only [Option.bind_some]
        rw [app_one (by omega)]; rfl
    · have e2 : decide (((r.getD (r.length - 1) 0).natAbs : Int) < r.getD 0 0) = false := by simp only [decide_eq_false_iff_not]; exact fun h => hg ⟨hl, h⟩
      rw [if_neg hg]
      simp only [e2, cond_false]
  · have e0 : decide ((r.length : Int) > 1) = false := by simp <;> omega
    rw [if_neg (fun h => hl h.1)]
    simp only [e0, cond_false, Option.bind_some]
end Go.Proofs.Ytbcdgfgacigaoaa
end
section
set_option linter.unusedVariables false
set_option linter.unusedSimpArgs false
namespace Go.Proofs.Ytbcdgfgacigaoaa
open Go Go.Ab Go.Tx
def lastLen (l : List (List Int)) : Nat := (l.getD (l.length - 1) []).length
def stab (p : List Int) : Bool := decide (lastLen (tab p) = 1)
theorem isStable_ok {p : List Int} (h : polyE p = 0) : drive_isStable p = some (stab p) := by
  unfold drive_isStable
  rw [table_ok h]
  simp only [Option.bind_some]
  have hl : 1 ≤ (tab p).length := by simp [tab]
  have hl2 : (tab p).length ≤ 10 := by
    have : ∀ k r, (tabR k r).length ≤ k := by
      intro k
      induction k with
      | zero => intro r; simp [tabR]
      | succ k ih => intro r; simp only [tabR]; split <;> (try split) <;> simp <;> (try exact ih _)
    have := this 3 (red p)
    simp [tab] <;> omega
  rw [wid (by omega) (by omega), idx_nil (by omega) (by omega)]
  have e : ((tab p).length - 1 : Int).toNat = (tab p).length - 1 := by omega
  rw [e]
  simp only [Option.bind_some]
  unfold stab lastLen
  congr 1
  rw [decide_eq_decide]
  omega
theorem refIsStable_ok {p : List Int} (h : polyE p = 0) : ref04_IsStable p = some (stab p) := by
  have h1 := isStable_ok h
  unfold drive_isStable at h1
  unfold ref04_IsStable
  rw [refTable_ok h]
  rw [table_ok h] at h1
  exact h1
theorem IsStable_ok {p : List Int} (hl : p.length ≤ 1000000000) : drive_IsStable p = some (if polyE p = 0 then stab p else false, polyE p) := by
  unfold drive_IsStable
  rw [polynomialErr_ok hl]
  simp only [Option.bind_some]
  by_cases h : polyE p = 0
  · rw [isStable_ok h]; simp [h]
  · simp [h]
end Go.Proofs.Ytbcdgfgacigaoaa
end
section
set_option linter.unusedVariables false
set_option linter.unusedSimpArgs false
namespace Go.Proofs.Ytbcdgfgacigaoaa
open Go Go.Ab Go.Tx
theorem polyE_cases (p : List Int) : polyE p = 10 ∨ polyE p = 8 ∨ polyE p = 2 ∨ polyE p = 11 ∨ polyE p = 0 := by
  unfold polyE
  split
  · simp
  · split
    · simp
    · split
      · simp
      · split <;> simp
def findM {ρ : Type} (g : Int → Option ρ) : Nat → Int → Option ρ
  | 0, _ => none
  | n + 1, m => match g m with
    | some r => some r
    | none => findM g n (m + 1)
theorem mass_find {ρ : Type} {lo hi : Int} (g : Int → Option ρ) {K : Int → Option (Int ⊕ (Unit ⊕ ρ))} (hK : ∀ m, lo ≤ m → m ≤ hi → K m = some (match g m with
      | some r => .inr (.inr r)
      | none => .inl (m + 1))) : ∀ (n : Nat) (m : Int), lo ≤ m → (hi + 1 - m).toNat = n → loopO (fun (s : Int) => bif decide (s ≤ hi) then K s else some (.inr (.inl ()))) m = some (toSum (findM g n m))
  | 0, m, h1, h2 => by
    refine loopO_inr ?_
    rw [decide_eq_false (show ¬ m ≤ hi by omega), cond_false]; rfl
  | n + 1, m, h1, h2 => by
    have hf : (bif decide (m ≤ hi) then K m else some (.inr (.inl ()))) = K m := by rw [decide_eq_true (show m ≤ hi by omega), cond_true]
    cases hg : g m with
    | some r =>
      refine (loopO_inr (r := .inr r) ?_).trans ?_
      · show (bif decide (m ≤ hi) then K m else some (.inr (.inl ()))) = _
        rw [hf, hK m h1 (by omega), hg]
      · simp only [findM, hg] <;> rfl
    | none =>
      refine (loopO_inl (s' := m + 1) ?_).trans ?_
      · show (bif decide (m ≤ hi) then K m else some (.inr (.inl ()))) = _
        rw [hf, hK m h1 (by omega), hg]
      · simp only [findM, hg]
        exact mass_find g hK n (m + 1) (by omega) (by omega)
theorem findM_some {ρ : Type} {g : Int → Option ρ} {r : ρ} : ∀ {n : Nat} {m : Int}, findM g n m = some r → ∃ j : Int, m ≤ j ∧ j < m + n ∧ g j = some r ∧ ∀ i, m ≤ i → i < j → g i = none
  | 0, m, h => by cases h
  | n + 1, m, h => by
    simp only [findM] at h
    cases hg : g m with
    | some q =>
      rw [hg] at h; simp only [Option.some.injEq] at h; subst h
      exact ⟨m, by omega, by omega, hg, fun i h1 h2 => by omega⟩
    | none =>
      rw [hg] at h
      obtain ⟨j, h1, h2, h3, h4⟩ := findM_some h
      refine ⟨j, by omega, by omega, h3, fun i h5 h6 => ?_⟩
      by_cases e : i = m
      · rw [e]; exact hg
      · exact h4 i (by omega) h6
theorem findM_none {ρ : Type} {g : Int → Option ρ} : ∀ {n : Nat} {m : Int}, findM g n m = none → ∀ i, m ≤ i → i < m + n → g i = none
  | 0, m, h => fun i _ _ => by omega
  | n + 1, m, h => fun i h1 h2 => by
    simp only [findM] at h
    cases hg : g m with
    | some q => rw [hg] at h; cases h
    | none =>
      rw [hg] at h
      by_cases e : i = m
      · rw [e]; exact hg
      · exact findM_none h i (by omega) (by omega)
theorem findM_map {ρ τ : Type} (f : ρ → τ) (g : Int → Option ρ) : ∀ (n : Nat) (m : Int), findM (fun m => (g m).map f) n m = (findM g n m).map f
  | 0, m => rfl
  | n + 1, m => by
    simp only [findM]
    cases hg : g m with
    | some r => rfl
    | none => exact findM_map f g n (m + 1)
abbrev Lp := List Int × List Int × Int × Int × Unit
def atL (r : Lp) (m : Int) : List Int := mkL r.1.length fun i => r.1.getD i 0 + m * r.2.1.getD i 0
def cnt (r : Lp) : Nat := (r.2.2.2.1 + 1 - r.2.2.1).toNat
def errG (r : Lp) (m : Int) : Option Int := if polyE (atL r m) = 0 then none else some (polyE (atL r m))
def scanE (r : Lp) : Int := (findM (errG r) (cnt r) r.2.2.1).getD 0
def loopE (r : Lp) : Int :=
  if r.1.length = 0 ∨ r.2.1.length ≠ r.1.length then 10 else if 4 < r.1.length then 8
  else if ¬ ((0 ≤ r.2.2.1 ∧ r.2.2.1 ≤ 40) ∧ (0 ≤ r.2.2.2.1 ∧ r.2.2.2.1 ≤ 40)) then 2 else if r.2.2.2.1 < r.2.2.1 then 9
  else if (r.1 ++ r.2.1).any bad1000 then 2 else scanE r
structure LpOk (r : Lp) : Prop where
  n1 : 1 ≤ r.1.length
  n4 : r.1.length ≤ 4
  len : r.2.1.length = r.1.length
  lo0 : 0 ≤ r.2.2.1
  lo40 : r.2.2.1 ≤ 40
  hi0 : 0 ≤ r.2.2.2.1
  hi40 : r.2.2.2.1 ≤ 40
  ord : r.2.2.1 ≤ r.2.2.2.1
  b : ∀ i, -1000 ≤ r.1.getD i 0 ∧ r.1.getD i 0 ≤ 1000
  y : ∀ i, -1000 ≤ r.2.1.getD i 0 ∧ r.2.1.getD i 0 ≤ 1000
theorem getD_good {l : List Int} (h : l.any bad1000 = false) (i : Nat) : -1000 ≤ l.getD i 0 ∧ l.getD i 0 ≤ 1000 := by
  by_cases hi : i < l.length
  · have := List.any_eq_false.1 h (l.getD i 0) (getD_mem (d := (0 : Int)) hi)
    unfold bad1000 at this
    simpa using this
  · have : l.getD i 0 = 0 := by rw [List.getD_eq_getElem?_getD, List.getElem?_eq_none (by omega)]; rfl
    rw [this]; omega
theorem cell_bd {r : Lp} (h : LpOk r) {m : Int} (h0 : 0 ≤ m) (h1 : m ≤ 40) (i : Nat) : -40000 ≤ m * r.2.1.getD i 0 ∧ m * r.2.1.getD i 0 ≤ 40000 := by
  have := abs_mul_le (a := m) (b := r.2.1.getD i 0) (A := 40) (B := 1000) (by omega) (h.y i)
  omega
theorem at_body {r : Lp} (h : LpOk r) {m : Int} (h0 : 0 ≤ m) (h1 : m ≤ 40) :
    (loopO (fun (s3 : ((List Int) × Int)) =>
      bif decide (s3.2 < (r.1.length : Int)) then
        (idx r.1 s3.2).bind fun x4 =>
        (idx r.2.1 s3.2).bind fun x5 =>
        (app s3.1 ([w64 (x4 + (w64 (m * x5)))])).bind fun x6 =>
        some (.inl (x6, w64 (s3.2 + 1)))
      else
        some (.inr s3.1)) ([], 0)).bind (fun (p7 : (List Int)) => some p7) = some (atL r m) := by
  have hn := h.n4
  have hlen := h.len
  rw [for_mk r.1.length (fun i => r.1.getD i 0 + m * r.2.1.getD i 0) (fun i hi => ?_) ?_]
  · rfl
  · have e0 : decide ((r.1.length : Int) < (r.1.length : Int)) = false := by simp
    simp only [e0, cond_false]
  · have e0 : decide ((i : Int) < (r.1.length : Int)) = true := decide_eq_true (by omega)
    simp only [e0, cond_true]
    rw [idx_int (by omega) (by omega), idx_int (l := r.2.1) (by omega) (by omega)]
    simp only [Option.bind_some, Int.toNat_natCast]
    have h2 := cell_bd h h0 h1 i
    have h3 := h.b i
    rw [wid (n := m * r.2.1.getD i 0) (by omega) (by omega), wid (n := r.1.getD i 0 + m * r.2.1.getD i 0) (by omega) (by omega), app_one (by rw [mkL_len]; omega)]
    simp only [Option.bind_some]
    rw [wid (by omega) (by omega)]
theorem at_ok {r : Lp} (h : LpOk r) {m : Int} (h0 : 0 ≤ m) (h1 : m ≤ 40) : drive_loop_at r m = some (atL r m) := by
  unfold drive_loop_at; exact at_body h h0 h1
theorem Of_ok {r : Lp} (h : LpOk r) {m : Int} (h0 : 0 ≤ m) (h1 : m ≤ 40) : ref04_Of r m = some (atL r m) := by
  unfold ref04_Of; exact at_body h h0 h1
theorem atL_len (r : Lp) (m : Int) : (atL r m).length = r.1.length := mkL_len _ _
theorem first2 (a b : Int) : drive_first [a, b] = some (if a = 0 then b else a) := by
  rw [first_eq _ (by simp)]
  by_cases h : a = 0 <;> by_cases h2 : b = 0 <;> simp [fst0, h, h2]
theorem first5 (a b c d e : Int) : drive_first [a, b, c, d, e] = some (if a = 0 then if b = 0 then if c = 0 then if d = 0 then e else d else c else b else a) := by
  rw [first_eq _ (by simp)]
  by_cases h : a = 0 <;> by_cases h2 : b = 0 <;> by_cases h3 : c = 0 <;> by_cases h4 : d = 0 <;> by_cases h5 : e = 0 <;> simp [fst0, h, h2, h3, h4, h5]
theorem mass_acc {r : Lp} (h : LpOk r) : ∀ (n : Nat) (m e : Int), r.2.2.1 ≤ m → (r.2.2.2.1 + 1 - m).toNat = n →
    loopO (fun (s69 : (Int × Int)) =>
        bif decide (s69.2 ≤ r.2.2.2.1) then
          (drive_loop_at r s69.2).bind fun x70 =>
          (drive_polynomialErr x70).bind fun x71 =>
          (drive_first ([s69.1, x71])).bind fun x72 =>
          some (.inl (x72, w64 (s69.2 + 1)))
        else
          some (.inr s69.1)) (e, m) = some (if e = 0 then (findM (errG r) n m).getD 0 else e)
  | 0, m, e, h1, h2 => by
    refine loopO_inr ?_
    have e0 : decide (m ≤ r.2.2.2.1) = false := decide_eq_false (by omega)
    simp only [e0, cond_false, findM]
    by_cases he : e = 0
    · rw [if_pos he, he]; rfl
    · rw [if_neg he]
  | n + 1, m, e, h1, h2 => by
    have hlo := h.lo0
    have hhi := h.hi40
    refine (loopO_inl (s' := (if e = 0 then polyE (atL r m) else e, m + 1)) ?_).trans ?_
    · have e0 : decide (m ≤ r.2.2.2.1) = true := decide_eq_true (by omega)
      simp only [e0, cond_true]
      rw [at_ok h (by omega) (by omega)]
      simp only [Option.bind_some]
      rw [polynomialErr_ok (by rw [atL_len]; have := h.n4; omega)]
      simp only [Option.bind_some]
      rw [first2]
      simp only [Option.bind_some]
      rw [wid (by omega) (by omega)]
    · rw [mass_acc h n (m + 1) _ (by omega) (by omega)]
      simp only [findM]
      by_cases he : e = 0
      · rw [if_pos he, if_pos he]
        unfold errG
        by_cases hp : polyE (atL r m) = 0
        · rw [if_pos hp, if_pos hp]
        · rw [if_neg hp, if_neg hp]; rfl
      · rw [if_neg he, if_neg he, if_neg he]
theorem err1_ok (x : Int) : drive_loop_err_1 x = some (bad1000 x) := by
  unfold drive_loop_err_1
  rw [isSized_ok _ _ (by omega) (by omega)]; rfl
theorem any_loop (l : List Int) (hl : l.length ≤ 1000000000) : ((loopO (fun (s10 : Int) =>
                        bif decide (s10 < (l.length : Int)) then
                          (idx l s10).bind fun x11 =>
                          (drive_loop_err_1 x11).bind fun x12 =>
                          bif x12 then
                            some (.inr (.inr s10))
                          else
                            some (.inl (w64 (s10 + 1)))
                        else
                          some (.inr (.inl ()))) 0).bind (Sum.elim (fun (p13 : Unit) =>
                    some (-1)) some)).bind (fun (p14 : Int) => some (decide (p14 ≥ 0))) = some (l.any bad1000) :=
  for_any l drive_loop_err_1 bad1000 (fun x _ => err1_ok x) hl
theorem none_loop : ((loopO (fun (s5 : Int) =>
                        bif decide (s5 < 0) then
                          none
                        else
                          some (.inr (.inl ()))) 0).bind (Sum.elim (fun (p6 : Unit) =>
                    some (-1)) (some : Int → Option Int))).bind (fun (p7 : Int) => some (decide (p7 ≥ 0))) = some false := by
  rw [loopO_inr (r := .inl ()) (by rfl)]; rfl
end Go.Proofs.Ytbcdgfgacigaoaa
end
section
set_option linter.unusedVariables false
set_option linter.unusedSimpArgs false
namespace Go.Proofs.Ytbcdgfgacigaoaa
open Go Go.Ab Go.Tx
theorem any_concat {b y : List Int} {K : Bool → Option Int} (hb : b.length ≤ 1000) (hy : y.length ≤ 1000) :
  (bif decide (w64 (0 + (b.length : Int)) < 0) then
      none
    else
      let v1 : Bool := decide (w64 ((w64 (0 + (b.length : Int))) + (y.length : Int)) < 0)
      bif v1 then
        none
      else
        let v2 : Bool := decide (w64 ((w64 (0 + (b.length : Int))) + (y.length : Int)) < 0)
        bif v2 then
          none
        else
          let v3 : Int := w64 ((w64 ((w64 (0 + (b.length : Int))) + (y.length : Int))) - 0)
          bif decide (v3 > 0) then
            bif (decide (0 < v3) && decide (v3 ≤ 4294967296)) then
              bif List.isEmpty b then
                bif List.isEmpty y then
                  ((loopO (fun (s5 : Int) =>
                        bif decide (s5 < 0) then
                          none
                        else
                          some (.inr (.inl ()))) 0).bind (Sum.elim (fun (p6 : Unit) =>
                    some (-1)) some)).bind fun (p7 : Int) =>
                  some (decide (p7 ≥ 0))
                else
                  (app [] y).bind fun x8 =>
                  ((loopO (fun (s10 : Int) =>
                        bif decide (s10 < (x8.length : Int)) then
                          (idx x8 s10).bind fun x11 =>
                          (drive_loop_err_1 x11).bind fun x12 =>
                          bif x12 then
                            some (.inr (.inr s10))
                          else
                            some (.inl (w64 (s10 + 1)))
                        else
                          some (.inr (.inl ()))) 0).bind (Sum.elim (fun (p13 : Unit) =>
                    some (-1)) some)).bind fun (p14 : Int) =>
                  some (decide (p14 ≥ 0))
              else
                (app [] b).bind fun x15 =>
                (app x15 y).bind fun x16 =>
                ((loopO (fun (s18 : Int) =>
                      bif decide (s18 < (x16.length : Int)) then
                        (idx x16 s18).bind fun x19 =>
                        (drive_loop_err_1 x19).bind fun x20 =>
                        bif x20 then
                          some (.inr (.inr s18))
                        else
                          some (.inl (w64 (s18 + 1)))
                      else
                        some (.inr (.inl ()))) 0).bind (Sum.elim (fun (p21 : Unit) =>
                  some (-1)) some)).bind fun (p22 : Int) =>
                some (decide (p22 ≥ 0))
            else
              none
          else
            bif List.isEmpty b then
              bif List.isEmpty y then
                ((loopO (fun (s24 : Int) =>
                      bif decide (s24 < 0) then
                        none
                      else
                        some (.inr (.inl ()))) 0).bind (Sum.elim (fun (p25 : Unit) =>
                  some (-1)) some)).bind fun (p26 : Int) =>
                some (decide (p26 ≥ 0))
              else
                (app [] y).bind fun x27 =>
                ((loopO (fun (s29 : Int) =>
                      bif decide (s29 < (x27.length : Int)) then
                        (idx x27 s29).bind fun x30 =>
                        (drive_loop_err_1 x30).bind fun x31 =>
                        bif x31 then
                          some (.inr (.inr s29))
                        else
                          some (.inl (w64 (s29 + 1)))
                      else
                        some (.inr (.inl ()))) 0).bind (Sum.elim (fun (p32 : Unit) =>
                  some (-1)) some)).bind fun (p33 : Int) =>
                some (decide (p33 ≥ 0))
            else
              (app [] b).bind fun x34 =>
              (app x34 y).bind fun x35 =>
              ((loopO (fun (s37 : Int) =>
                    bif decide (s37 < (x35.length : Int)) then
                      (idx x35 s37).bind fun x38 =>
                      (drive_loop_err_1 x38).bind fun x39 =>
                      bif x39 then
                        some (.inr (.inr s37))
                      else
                        some (.inl (w64 (s37 + 1)))
                    else
                      some (.inr (.inl ()))) 0).bind (Sum.elim (fun (p40 : Unit) =>
                some (-1)) some)).bind fun (p41 : Int) =>
              some (decide (p41 ≥ 0))).bind K = K ((b ++ y).any bad1000) := by
  rw [wid (n := 0 + (b.length : Int)) (by omega) (by omega), wid (n := 0 + (b.length : Int) + (y.length : Int)) (by omega) (by omega), wid (n := 0 + (b.length : Int) + (y.length : Int) - 0) (by omega) (by omega)]
  have d1 : decide (0 + (b.length : Int) < 0) = false := decide_eq_false (by omega)
  have d2 : decide (0 + (b.length : Int) + (y.length : Int) < 0) = false := decide_eq_false (by omega)
  have d4 : decide (0 + (b.length : Int) + (y.length : Int) - 0 ≤ 4294967296) = true := decide_eq_true (by omega)
  have d5 : (decide (0 < 0 + (b.length : Int) + (y.length : Int) - 0)) = decide (0 + (b.length : Int) + (y.length : Int) - 0 > 0) := rfl
  rw [d1, d2]
  simp only [cond_false]
  rw [d4]
  simp only [Bool.and_true]
  have e1 : app [] b = some b := app_nil (by omega)
  have e2 : app [] y = some y := app_nil (by omega)
  have e3 : app b y = some (b ++ y) := app_in (by omega)
  rw [e1, e2]
  simp only [Option.bind_some, e3]
  have hby : (b ++ y).length ≤ 1000000000 := by rw [List.length_append]; omega
  rw [any_loop (b ++ y) hby, any_loop y (by omega), none_loop]
  cases b with
  | nil =>
    cases y with
    | nil => simp
    | cons y0 y => cases decide ((0 : Int) + (([] : List Int).length : Int) + ((y0 :: y).length : Int) - 0 > 0) <;> simp
  | cons b0 b => cases decide ((0 : Int) + ((b0 :: b).length : Int) + (y.length : Int) - 0 > 0) <;> simp
theorem loop_err_ok {r : Lp} (hb : r.1.length ≤ 1000) (hy : r.2.1.length ≤ 1000) : drive_loop_err r = some (loopE r) := by
  unfold drive_loop_err
  rw [any_concat hb hy]
  unfold loopE
  simp only [within_ok, unless_eq, Option.bind_some, first5]
  by_cases c1 : r.1.length = 0
  · have d1 : decide ((r.1.length : Int) > 0) = false := decide_eq_false (by omega)
    rw [d1, if_pos (Or.inl c1)]
    cases decide (0 ≤ r.2.2.1 ∧ r.2.2.1 ≤ 40) <;> simp
  have d1 : decide ((r.1.length : Int) > 0) = true := decide_eq_true (by omega)
  rw [d1, cond_true]
  by_cases c2 : r.2.1.length = r.1.length
  case neg =>
    rw [if_pos (Or.inr c2), decide_eq_false (show ¬ (r.2.1.length : Int) = (r.1.length : Int) by omega)]
    cases decide (0 ≤ r.2.2.1 ∧ r.2.2.1 ≤ 40) <;> simp
  rw [if_neg (show ¬ (r.1.length = 0 ∨ r.2.1.length ≠ r.1.length) from fun hh => hh.elim c1 fun h => h c2), decide_eq_true (show (r.2.1.length : Int) = (r.1.length : Int) by omega)]
  by_cases c3 : r.1.length ≤ 4
  case neg =>
    rw [if_pos (show 4 < r.1.length by omega), decide_eq_false (show ¬ (r.1.length : Int) ≤ 4 by omega)]
    cases decide (0 ≤ r.2.2.1 ∧ r.2.2.1 ≤ 40) <;> simp
  rw [if_neg (show ¬ 4 < r.1.length by omega), decide_eq_true (show (r.1.length : Int) ≤ 4 by omega)]
  by_cases c4 : 0 ≤ r.2.2.1 ∧ r.2.2.1 ≤ 40
  case neg =>
    rw [if_pos (show ¬ ((0 ≤ r.2.2.1 ∧ r.2.2.1 ≤ 40) ∧ (0 ≤ r.2.2.2.1 ∧ r.2.2.2.1 ≤ 40)) from fun hh => c4 hh.1), decide_eq_false c4]
    simp
  rw [decide_eq_true c4, cond_true]
  by_cases c5 : 0 ≤ r.2.2.2.1 ∧ r.2.2.2.1 ≤ 40
  case neg =>
    rw [if_pos (show ¬ ((0 ≤ r.2.2.1 ∧ r.2.2.1 ≤ 40) ∧ (0 ≤ r.2.2.2.1 ∧ r.2.2.2.1 ≤ 40)) from fun hh => c5 hh.2), decide_eq_false c5]
    simp
  rw [if_neg (show ¬ ¬ ((0 ≤ r.2.2.1 ∧ r.2.2.1 ≤ 40) ∧ (0 ≤ r.2.2.2.1 ∧ r.2.2.2.1 ≤ 40)) from fun hh => hh ⟨c4, c5⟩), decide_eq_true c5]
  by_cases c6 : r.2.2.1 ≤ r.2.2.2.1
  case neg =>
    rw [if_pos (show r.2.2.2.1 < r.2.2.1 by omega), decide_eq_false c6]
    simp
  rw [if_neg (show ¬ r.2.2.2.1 < r.2.2.1 by omega), decide_eq_true c6]
  cases c7 : (r.1 ++ r.2.1).any bad1000 with
  | true => simp
  | false =>
    have h7 : r.1.any bad1000 = false ∧ r.2.1.any bad1000 = false := by
      rw [List.any_append, Bool.or_eq_false_iff] at c7; exact c7
    have hL : LpOk r := ⟨by omega, c3, c2, c4.1, c4.2, c5.1, c5.2, c6, getD_good h7.1, getD_good h7.2⟩
    simp only [Bool.not_false, if_true, Option.bind_some, decide_true, Bool.not_true, cond_false, Bool.false_eq_true, if_false]
    rw [mass_acc hL (cnt r) r.2.2.1 0 (by omega) rfl, if_pos rfl]
    rfl
theorem loop_ok {r : Lp} (h : loopE r = 0) : LpOk r ∧ ∀ m, r.2.2.1 ≤ m → m ≤ r.2.2.2.1 → polyE (atL r m) = 0 := by
  unfold loopE at h
  by_cases c1 : r.1.length = 0 ∨ r.2.1.length ≠ r.1.length
  · rw [if_pos c1] at h; cases h
  rw [if_neg c1] at h
  by_cases c3 : 4 < r.1.length
  · rw [if_pos c3] at h; cases h
  rw [if_neg c3] at h
  by_cases c4 : (0 ≤ r.2.2.1 ∧ r.2.2.1 ≤ 40) ∧ (0 ≤ r.2.2.2.1 ∧ r.2.2.2.1 ≤ 40)
  case neg => rw [if_pos c4] at h; cases h
  rw [if_neg (fun hh => hh c4)] at h
  by_cases c5 : r.2.2.2.1 < r.2.2.1
  · rw [if_pos c5] at h; cases h
  rw [if_neg c5] at h
  cases c7 : (r.1 ++ r.2.1).any bad1000 with
  | true => rw [c7, if_pos rfl] at h; cases h
  | false =>
    rw [c7, if_neg (by simp)] at h
    have h7 : r.1.any bad1000 = false ∧ r.2.1.any bad1000 = false := by
      rw [List.any_append, Bool.or_eq_false_iff] at c7; exact c7
    have hc : r.1.length ≠ 0 ∧ r.2.1.length = r.1.length := by
      constructor
      · exact fun e => c1 (.inl e)
      · false_or_by_contra
        rename_i e
        exact c1 (.inr e)
    refine ⟨⟨by omega, by omega, hc.2, c4.1.1, c4.1.2, c4.2.1, c4.2.2, by omega, getD_good h7.1, getD_good h7.2⟩, fun m h1 h2 => ?_⟩
    unfold scanE at h
    cases hf : findM (errG r) (cnt r) r.2.2.1 with
    | some e =>
      rw [hf] at h
      obtain ⟨j, _, _, h3, _⟩ := findM_some hf
      unfold errG at h3
      simp only [Option.getD_some] at h
      split at h3
      · cases h3
      · rename_i hp
        simp only [Option.some.injEq] at h3
        omega
    | none =>
      have := findM_none hf m h1 (by unfold cnt; omega)
      unfold errG at this
      split at this
      · assumption
      · cases this
theorem loopE_ne12 (r : Lp) : loopE r ≠ 12 := by
  unfold loopE
  split
  · decide
  · split
    · decide
    · split
      · decide
      · split
        · decide
        · split
          · decide
          · unfold scanE
            cases hf : findM (errG r) (cnt r) r.2.2.1 with
            | none => decide
            | some e =>
              obtain ⟨j, _, _, h3, _⟩ := findM_some hf
              unfold errG at h3
              split at h3
              · cases h3
              · simp only [Option.some.injEq] at h3
                have := polyE_cases (atL r j)
                simp only [Option.getD_some]
                omega
theorem LoopErr_ok {r : Lp} (hb : r.1.length ≤ 1000) (hy : r.2.1.length ≤ 1000) : ref04_LoopErr r = some (loopE r) := by
  unfold ref04_LoopErr loopE
  by_cases c1 : r.1.length = 0
  · rw [decide_eq_true (show (r.1.length : Int) = 0 by omega), cond_true, Option.bind_some, cond_true, if_pos (Or.inl c1)]
  rw [decide_eq_false (show ¬ (r.1.length : Int) = 0 by omega), cond_false, Option.bind_some]
  by_cases c2 : r.2.1.length = r.1.length
  case neg => rw [decide_eq_false (show ¬ (r.2.1.length : Int) = (r.1.length : Int) by omega), Bool.not_false, cond_true, if_pos (Or.inr c2)]
  rw [if_neg (show ¬ (r.1.length = 0 ∨ r.2.1.length ≠ r.1.length) from fun hh => hh.elim c1 fun h => h c2), decide_eq_true (show (r.2.1.length : Int) = (r.1.length : Int) by omega), Bool.not_true, cond_false]
  by_cases c3 : 4 < r.1.length
  · rw [decide_eq_true (show (r.1.length : Int) > 4 by omega), cond_true, if_pos c3]
  rw [decide_eq_false (show ¬ (r.1.length : Int) > 4 by omega), cond_false, if_neg c3, Within_ok, Option.bind_some]
  by_cases c4 : 0 ≤ r.2.2.1 ∧ r.2.2.1 ≤ 40
  case neg => rw [decide_eq_false c4, Bool.not_false, cond_true, Option.bind_some, cond_true, if_pos (show ¬ ((0 ≤ r.2.2.1 ∧ r.2.2.1 ≤ 40) ∧ (0 ≤ r.2.2.2.1 ∧ r.2.2.2.1 ≤ 40)) from fun hh => c4 hh.1)]
  rw [decide_eq_true c4, Bool.not_true, cond_false, Within_ok, Option.bind_some, Option.bind_some]
  by_cases c5 : 0 ≤ r.2.2.2.1 ∧ r.2.2.2.1 ≤ 40
  case neg => rw [decide_eq_false c5, Bool.not_false, cond_true, if_pos (show ¬ ((0 ≤ r.2.2.1 ∧ r.2.2.1 ≤ 40) ∧ (0 ≤ r.2.2.2.1 ∧ r.2.2.2.1 ≤ 40)) from fun hh => c5 hh.2)]
  rw [decide_eq_true c5, Bool.not_true, cond_false, if_neg (show ¬ ¬ ((0 ≤ r.2.2.1 ∧ r.2.2.1 ≤ 40) ∧ (0 ≤ r.2.2.2.1 ∧ r.2.2.2.1 ≤ 40)) from fun hh => hh ⟨c4, c5⟩)]
  by_cases c6 : r.2.2.2.1 < r.2.2.1
  · rw [decide_eq_true (show r.2.2.1 > r.2.2.2.1 by omega), cond_true, if_pos c6]
  rw [decide_eq_false (show ¬ r.2.2.1 > r.2.2.2.1 by omega), cond_false, if_neg c6]
  have hloop := for_find r.1 (fun (s6 : Int) =>
                ((idx r.1 s6).bind fun x7 =>
                  (base_Within x7 (-1000 : Int) (1000 : Int)).bind fun x8 =>
                  bif !x8 then
                    some true
                  else
                    (idx r.2.1 s6).bind fun x9 =>
                    (base_Within x9 (-1000 : Int) (1000 : Int)).bind fun x10 =>
                    some (!x10)).bind fun (p11 : Bool) =>
                bif p11 then
                  some (.inr (.inr (2 : Int)))
                else
                  some (.inl (w64 (s6 + 1)))) (fun i a => if bad1000 a = true ∨ bad1000 (r.2.1.getD i 0) = true then some 2 else none) (fun i a hi => by
    have hlt := len_lt hi
    rw [idx_of hi, idx_int (l := r.2.1) (by omega) (by omega), Int.toNat_natCast]
    simp only [Option.bind_some, Within_ok]
    rw [wid (by omega) (by omega)]
    cases hx : bad1000 a with
    | true =>
      have : decide (-1000 ≤ a ∧ a ≤ 1000) = false := by unfold bad1000 at hx; simpa only [Bool.not_eq_true'] using hx
      rw [this]; simp [stp]
    | false =>
      have : decide (-1000 ≤ a ∧ a ≤ 1000) = true := by unfold bad1000 at hx; simpa using hx
      rw [this]
      cases hy : bad1000 (r.2.1.getD i 0) with
      | true =>
        have : decide (-1000 ≤ r.2.1.getD i 0 ∧ r.2.1.getD i 0 ≤ 1000) = false := by unfold bad1000 at hy; simpa only [Bool.not_eq_true'] using hy
        rw [this]; simp [stp]
      | false =>
        have : decide (-1000 ≤ r.2.1.getD i 0 ∧ r.2.1.getD i 0 ≤ 1000) = true := by unfold bad1000 at hy; simpa using hy
        rw [this]; simp [stp])
  rw [hloop, elim_toSum]
  cases hf : findI (fun i a => if bad1000 a = true ∨ bad1000 (r.2.1.getD i 0) = true then some (2 : Int) else none) 0 r.1 with
  | some q =>
    obtain ⟨i, a, h1, h2, _⟩ := findI_some hf
    rw [Nat.zero_add] at h2
    have hlt := len_lt h1
    split at h2
    · rename_i hq
      simp only [Option.some.injEq] at h2
      subst h2
      have : (r.1 ++ r.2.1).any bad1000 = true := by
        rw [List.any_append, Bool.or_eq_true]
        rcases hq with hq | hq
        · exact .inl (List.any_eq_true.2 ⟨a, List.mem_of_getElem? h1, hq⟩)
        · exact .inr (List.any_eq_true.2 ⟨_, getD_mem (d := (0 : Int)) (show i < r.2.1.length by omega), hq⟩)
      simp only
      rw [this, if_pos rfl]
    · cases h2
  | none =>
    rw [findI_none] at hf
    have h7 : r.1.any bad1000 = false ∧ r.2.1.any bad1000 = false := by
      constructor
      · rw [List.any_eq_false]
        intro x hx
        obtain ⟨i, hi⟩ := List.mem_iff_getElem?.1 hx
        have := hf i x hi
        split at this
        · cases this
        · rename_i hq
          exact fun h => hq (.inl h)
      · rw [List.any_eq_false]
        intro x hx
        obtain ⟨i, hi⟩ := List.mem_iff_getElem?.1 hx
        have hlt := len_lt hi
        have := hf i _ (at_getD (0 : Int) (show i < r.1.length by omega))
        rw [Nat.zero_add] at this
        have hg : r.2.1.getD i 0 = x := getD_at hi
        rw [hg] at this
        split at this
        · cases this
        · rename_i hq
          exact fun h => hq (.inr h)
    have c7 : (r.1 ++ r.2.1).any bad1000 = false := by rw [List.any_append, h7.1, h7.2]; rfl
    have hL : LpOk r := ⟨by omega, by omega, c2, c4.1, c4.2, c5.1, c5.2, by omega, getD_good h7.1, getD_good h7.2⟩
    simp only
    rw [c7, if_neg (by simp)]
    have hlo := hL.lo0
    have hhi := hL.hi40
    rw [mass_find (lo := r.2.2.1) (errG r) (fun m h1 h2 => ?_) (cnt r) r.2.2.1 (by omega) rfl, elim_toSum]
    · unfold scanE
      cases findM (errG r) (cnt r) r.2.2.1 <;> rfl
    · rw [Of_ok hL (by omega) (by omega)]
      simp only [Option.bind_some]
      rw [refPolynomialErr_ok (by rw [atL_len]; omega)]
      simp only [Option.bind_some]
      rw [wid (by omega) (by omega)]
      unfold errG
      by_cases hp : polyE (atL r m) = 0
      · rw [if_pos hp, decide_eq_true hp]; rfl
      · rw [if_neg hp, decide_eq_false hp]; rfl
def fuG (r : Lp) (m : Int) : Option Int := if stab (atL r m) = true then none else some m
def fu (r : Lp) : Option Int := findM (fuG r) (cnt r) r.2.2.1
theorem FirstUnstable_ok {r : Lp} (hb : r.1.length ≤ 1000) (hy : r.2.1.length ≤ 1000) : drive_FirstUnstable r = some (if loopE r ≠ 0 then (0, loopE r) else match fu r with
    | some m => (m, 0)
    | none => (0, 12)) := by
  unfold drive_FirstUnstable
  rw [loop_err_ok hb hy, Option.bind_some]
  by_cases hE : loopE r = 0
  case neg => rw [decide_eq_false hE, Bool.not_false, cond_true, if_pos hE]
  rw [decide_eq_true hE, Bool.not_true, cond_false, if_neg (fun hh => hh hE)]
  obtain ⟨hL, hP⟩ := loop_ok hE
  have hlo := hL.lo0
  have hhi := hL.hi40
  rw [mass_find (lo := r.2.2.1) (fun m => (fuG r m).map fun m => ((m, 0) : Int × Int)) (fun m h1 h2 => ?_) (cnt r) r.2.2.1 (by omega) rfl, elim_toSum, findM_map]
  · unfold fu
    cases findM (fuG r) (cnt r) r.2.2.1 <;> rfl
  · rw [at_ok hL (by omega) (by omega), Option.bind_some, isStable_ok (hP m h1 h2), Option.bind_some, wid (by omega) (by omega)]
    unfold fuG
    cases stab (atL r m) <;> rfl
theorem refFirstUnstable_ok {r : Lp} (hE : loopE r = 0) : ref04_FirstUnstable r = some (match fu r with
    | some m => (m, true)
    | none => (0, false)) := by
  unfold ref04_FirstUnstable
  obtain ⟨hL, hP⟩ := loop_ok hE
  have hlo := hL.lo0
  have hhi := hL.hi40
  rw [mass_find (lo := r.2.2.1) (fun m => (fuG r m).map fun m => ((m, true) : Int × Bool)) (fun m h1 h2 => ?_) (cnt r) r.2.2.1 (by omega) rfl, elim_toSum, findM_map]
  · unfold fu
    cases findM (fuG r) (cnt r) r.2.2.1 <;> rfl
  · rw [Of_ok hL (by omega) (by omega), Option.bind_some, refIsStable_ok (hP m h1 h2), Option.bind_some, wid (by omega) (by omega)]
    unfold fuG
    cases stab (atL r m) <;> rfl
def marg (r : Lp) : Int × Int := if loopE r ≠ 0 then (0, loopE r) else match fu r with
  | some m => if m = r.2.2.1 then (0, 12) else (m - 1, 0)
  | none => (r.2.2.2.1, 0)
theorem fu_some {r : Lp} {m : Int} (h : fu r = some m) : r.2.2.1 ≤ m ∧ m ≤ r.2.2.2.1 ∧ ∀ i, r.2.2.1 ≤ i → i < m → stab (atL r i) = true := by
  unfold fu at h
  obtain ⟨j, h1, h2, h3, h4⟩ := findM_some h
  have e : j = m := by
    unfold fuG at h3
    split at h3
    · cases h3
    · simpa using h3
  subst e
  refine ⟨h1, by unfold cnt at h2; omega, fun i h5 h6 => ?_⟩
  have := h4 i h5 h6
  unfold fuG at this
  split at this
  · assumption
  · cases this
theorem fu_none {r : Lp} (h : fu r = none) (i : Int) (h1 : r.2.2.1 ≤ i) (h2 : i ≤ r.2.2.2.1) : stab (atL r i) = true := by
  unfold fu at h
  have := findM_none h i h1 (by unfold cnt; omega)
  unfold fuG at this
  split at this
  · assumption
  · cases this
theorem MarginOf_ok {r : Lp} (hb : r.1.length ≤ 1000) (hy : r.2.1.length ≤ 1000) : drive_MarginOf r = some (marg r) := by
  unfold drive_MarginOf marg
  rw [FirstUnstable_ok hb hy, Option.bind_some]
  by_cases hE : loopE r = 0
  case neg =>
    rw [if_pos hE, if_pos hE]
    show (bif decide (loopE r = 12) then _ else bif !(decide (loopE r = 0)) then some ((0 : Int), loopE r) else _) = _
    rw [decide_eq_false (loopE_ne12 r), cond_false, decide_eq_false hE]; rfl
  rw [if_neg (fun hh => hh hE), if_neg (fun hh => hh hE)]
  obtain ⟨hL, hP⟩ := loop_ok hE
  cases hf : fu r with
  | none => rfl
  | some m =>
    obtain ⟨h1, h2, _⟩ := fu_some hf
    have hlo := hL.lo0
    have hhi := hL.hi40
    show (bif decide ((0 : Int) = 12) then _ else bif !(decide ((0 : Int) = 0)) then _ else bif decide (m = r.2.2.1) then some ((0 : Int), (12 : Int)) else some (w64 (m - 1), (0 : Int))) = some (if m = r.2.2.1 then ((0 : Int), (12 : Int)) else (m - 1, 0))
    rw [wid (n := m - 1) (by omega) (by omega)]
    by_cases hm : m = r.2.2.1
    · rw [decide_eq_true hm, if_pos hm]; rfl
    · rw [decide_eq_false hm, if_neg hm]; rfl
theorem CopyLoop_ok {r : Lp} (hb : r.1.length ≤ 1000000000) (hy : r.2.1.length ≤ 1000000000) : ref04_CopyLoop r = some r := by
  unfold ref04_CopyLoop
  rw [CopyInts_ok hb, Option.bind_some, CopyInts_ok hy, Option.bind_some]
theorem DriveLoops_eq (r : Lp) : law04_DriveLoops r = some true := by
  unfold law04_DriveLoops
  rw [show law04_awake = some true from rfl, Option.bind_some, Bool.not_true, cond_false]
  by_cases c1 : r.1.length ≤ 6
  case neg => rw [decide_eq_true (show (r.1.length : Int) > 6 by omega)]; rfl
  rw [decide_eq_false (show ¬ (r.1.length : Int) > 6 by omega), cond_false, Option.bind_some]
  by_cases c2 : r.2.1.length ≤ 6
  case neg => rw [decide_eq_true (show (r.2.1.length : Int) > 6 by omega)]; rfl
  rw [decide_eq_false (show ¬ (r.2.1.length : Int) > 6 by omega), cond_false]
  rw [CopyLoop_ok (by omega) (by omega), Option.bind_some, FirstUnstable_ok (by omega) (by omega), Option.bind_some, Option.bind_some, MarginOf_ok (by omega) (by omega), Option.bind_some, LoopErr_ok (by omega) (by omega), Option.bind_some]
  by_cases hE : loopE r = 0
  case neg =>
    have em : marg r = (0, loopE r) := if_pos hE
    rw [em, if_pos hE, decide_eq_false hE]
    simp
  obtain ⟨hL, hP⟩ := loop_ok hE
  have hlo := hL.lo0
  have hhi := hL.hi40
  have hh0 := hL.hi0
  have hord := hL.ord
  have hlen : ∀ m, (atL r m).length ≤ 1000000000 := fun m => by rw [atL_len]; omega
  have em : marg r = match fu r with
      | some m => if m = r.2.2.1 then (0, 12) else (m - 1, 0)
      | none => (r.2.2.2.1, 0) := if_neg (fun hh => hh hE)
  rw [if_neg (fun hh => hh hE), decide_eq_true hE, Bool.not_true, cond_false, refFirstUnstable_ok hE, Option.bind_some, em]
  cases hf : fu r with
  | none =>
    have hs := fu_none hf r.2.2.2.1 hL.ord (by omega)
    have e1 : w64 (w64 (r.2.2.2.1 + 1) - 1) = r.2.2.2.1 := by
      rw [wid (n := r.2.2.2.1 + 1) (by omega) (by omega), wid (by omega) (by omega)]; omega
    have ho := hL.ord
    simp only [cond_false, cond_true, Bool.not_false, Bool.not_true, decide_true, Option.bind_some, e1]
    rw [Of_ok hL (by omega) (by omega), Option.bind_some, IsStable_ok (hlen _), Option.bind_some, if_pos (hP _ ho (by omega)), hP _ ho (by omega), hs]
    rfl
  | some m =>
    obtain ⟨h1, h2, h3⟩ := fu_some hf
    by_cases hm : m = r.2.2.1
    · simp [hm]
    · have hs := h3 (m - 1) (by omega) (by omega)
      have e1 : w64 (m - 1) = m - 1 := wid (by omega) (by omega)
      have dm : decide (m = r.2.2.1) = false := decide_eq_false hm
      simp only [if_neg hm, cond_false, cond_true, Bool.not_false, Bool.not_true, decide_true, Option.bind_some, e1, dm]
      rw [Of_ok hL (by omega) (by omega), Option.bind_some, IsStable_ok (hlen _), Option.bind_some, if_pos (hP _ (by omega) (by omega)), hP _ (by omega) (by omega), hs]
      rfl
theorem law04_DriveLoops_true : ∀ x : denP ([Ty.pair (.sl I) (.pair (.sl I) (.pair I (.pair I .unit)))].map .ty), RngP maxLen [.pair (.sl I) (.pair (.sl I) (.pair I (.pair I .unit)))] x → e_law04_DriveLoops.F x = some true := by
  intro a0 _
  exact DriveLoops_eq a0
end Go.Proofs.Ytbcdgfgacigaoaa
end
section
namespace Go.Proofs.Ytbcdgfgacigaoaa.driveLoops
open Go Go.Ab Go.Tx Go.ChangeShapes Go.WideShapes Go.ChangeAt Go.RowKit
set_option linter.unusedVariables false
theorem hlib : ∀ g h args r, Lb g = some h → h args = some r → CallOk Try.prog g args [] r [] := fun g h args r hg hr => by
  unfold Lb at hg
  split at hg
  · rename_i e
    subst e
    cases hg
    cases args with
    | nil => cases hr; exact awake_ok
    | cons a l => cases hr
  · cases hg
set_option maxRecDepth 100000 in
theorem contract (H : Type) (enc : TypeId × Value → H) (W : World) (base : Nat) (args : Array Value) (ds gs : List (DataW H)) (before : List MemPlace)
    (hval : ∀ (j : Nat) t v, Try.f6.params[j]? = some t → args[j]? = some v → Value.okWide Try.prog W .any base t v)
    (hW : DataW.Whole enc Try.prog Try.f6.params.toList Rows.driveLoopsSpec.vars false W args.toList ds gs before) :
    Calls Try.prog 6 args W fun e W' => ∃ v, e = .returned v ∧ Rows.driveLoopsSpec.post enc Try.prog Try.f6 false true false false W args v W' :=
  law_contract (τs := [(.pair (.sl I) (.pair (.sl I) (.pair I (.pair I .unit))))]) (ts := [61]) (tb := 4) (F := e_law04_DriveLoops.F) follows hname hlib laid_out Try.func6 (by kernel_rfl) (by kernel_rfl) (by kernel_rfl) (by kernel_rfl) (by kernel_rfl) (by kernel_rfl) Try.underlying4 o_law04_DriveLoops law04_DriveLoops_true rfl
    (fun H ds h => by
      match ds, h with
      | [d1], _ => rfl) H enc W base args ds gs before hval hW
set_option maxRecDepth 100000 in
theorem lifted (os : Os) (started : os.Started) (H : Type) (enc : TypeId × Value → H) :
    ReturnsInHanded {} Try.checked os 6 .any (Rows.driveLoopsSpec.pre6 enc Try.prog Try.f6 Rows.driveLoopsRow.domain false) (Rows.driveLoopsSpec.post enc Try.prog Try.f6 false true false false) := by
  refine returnsInHanded_of_change (C := Try.checked) own started (by kernel_rfl) Try.func6
    (ChangeSpec.witness6 (enc := enc) (C := Try.checked) false ⟨#[], #[.agg #[.slice none 0 0, .slice none 0 0, .int .i64 0, .int .i64 0]], []⟩ 8 (by kernel_rfl) (by kernel_rfl) (by kernel_rfl) (by kernel_rfl)) ?_
  intro W base args ds gs before hval hW _ _
  exact contract H enc W base args ds gs before hval hW
theorem proved : Rows.DriveLoopsSaid :=
  OpenClaim.holds_of_wide 6 Try.f6 rfl rfl rfl rfl rfl rfl rfl ⟨rfl, rfl, rfl, rfl, rfl⟩ rfl rfl rfl rfl rfl (by kernel_rfl) Try.func6 (by kernel_rfl)
    (of_decide_eq_true (by kernel_rfl)) (by unfold Func.isWrapper; first | (rw [if_pos (by decide +kernel)]; kernel_rfl) | (rw [if_neg (by decide +kernel)]; exact ⟨rfl, rfl⟩))
    (fun os started H enc _ => lifted os started H enc)
end Go.Proofs.Ytbcdgfgacigaoaa.driveLoops
end
