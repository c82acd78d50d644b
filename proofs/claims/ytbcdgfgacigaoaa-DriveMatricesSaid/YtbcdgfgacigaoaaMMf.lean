/-
  ONE LAW OF A CHAPTER: its program side is run by an interpreter that is proved sound; what it computes is shown to be what the law says. No conditions. Part 6 of 6.
-/
import Derived.Test.YtbcdgfgacigaoaaMMe
import Derived.Test.YtbcdgfgacigaoaaProg
import Derived.KernelRfl
set_option linter.unusedSimpArgs false
set_option linter.unusedVariables false
set_option linter.unnecessarySimpa false
section
/-
  TYPED FUNCTIONS (written by gen.py), each with the equation that the kernel checks: it is what the typed interpreter computes.
-/
set_option maxRecDepth 100000
set_option linter.unusedVariables false
namespace Go.Proofs.Ytbcdgfgacigaoaa
open Go Go.Ab Go.Tx
noncomputable section
@[reducible] def I : Ty := .int .i64
@[reducible] def w64 (n : Int) : Int := IntKind.wrap .i64 n
def lookJ : List (List Tmp × FuncId × Kind × Join) → List Tmp → FuncId → Kind → Option Join
  | [], _, _, _ => none
  | (c, f, k, j) :: l, c', f', k' => if f = f' then (if k = k' then (if c = c' then some j else lookJ l c' f' k') else lookJ l c' f' k') else lookJ l c' f' k'
def awakeId : Nat := 7
def mkTH (js : List (List Tmp × FuncId × Kind × Join)) (inl : List (List Tmp × FuncId × Tmp)) : TH where
  lib := fun g => decide (g = awakeId)
  join := lookJ js
  inl := fun c f d => inl.any fun (c', f', d') => decide (f = f') && decide (d = d') && decide (c = c')
/-- functions that are known otherwise -/
def Lb : FuncId → Option (List V → Option V) := fun g => if g = awakeId then some (fun args => match args with
    | [] => some (.val (.bool true))
    | _ => none) else none
theorem hJ {js : List (List Tmp × FuncId × Kind × Join)} {inl : List (List Tmp × FuncId × Tmp)} : ∀ g, (mkTH js inl).lib g = false → Lb g = none := fun g h => by
  simp only [mkTH, decide_eq_false_iff_not] at h
  simp [Lb, h]
def law04_awake : Option Bool := some true
def e_law04_awake : Entry := ⟨7, [], [(.bool, 0)], fun _ => law04_awake⟩
theorem o_law04_awake : EntryOk Try.prog Hn.hints Lb e_law04_awake := fun x y h vs hv => by
  obtain rfl : true = y := Option.some.inj h
  simp only [e_law04_awake, ofPms, RVL] at hv
  subst hv
  refine ⟨.val (.bool true), ⟨1, fun m hm => ?_⟩, by simp [packT, e_law04_awake, ofL, packedT, ofTy, RV, RTy]⟩
  obtain ⟨m', rfl⟩ : ∃ m', m = m' + 1 := ⟨m - 1, by omega⟩
  simp [orcN, Lb, awakeId, e_law04_awake]
/-- ductility/ductilitybase.CopyInts -/
def base_CopyInts (a0 : (List Int)) : Option (List Int) :=
  (app [] a0).bind fun x1 =>
  some x1
def e_base_CopyInts : Entry := ⟨9, [.ty (.sl I)], [((.sl I), 1)], fun x => base_CopyInts x⟩
def j_base_CopyInts : TH := mkTH [] []
theorem k_base_CopyInts (x : denP e_base_CopyInts.ps) : fnT Try.prog Hn.hints j_base_CopyInts (tabT []) 40 9 (ofPms e_base_CopyInts.ps x) e_base_CopyInts.rs = e_base_CopyInts.F x := by kernel_rfl
theorem o_base_CopyInts : EntryOk Try.prog Hn.hints Lb e_base_CopyInts := entry_ok tab_nil hJ 40 _ _ _ _ k_base_CopyInts
/-- ductility/drive.unless -/
def drive_unless (a0 : Bool) (a1 : Int) : Option Int :=
  bif a0 then
    some 0
  else
    some a1
def e_drive_unless : Entry := ⟨50, [.ty .bool, .ty I], [(I, 0)], fun x => drive_unless x.1 x.2⟩
def j_drive_unless : TH := mkTH [] []
theorem k_drive_unless (x : denP e_drive_unless.ps) : fnT Try.prog Hn.hints j_drive_unless (tabT []) 40 50 (ofPms e_drive_unless.ps x) e_drive_unless.rs = e_drive_unless.F x := by kernel_rfl
theorem o_drive_unless : EntryOk Try.prog Hn.hints Lb e_drive_unless := entry_ok tab_nil hJ 40 _ _ _ _ k_drive_unless
/-- ductility/drive.first -/
def drive_first (a0 : (List Int)) : Option Int :=
  (loopO (fun (s2 : Int) =>
      bif decide (s2 < (a0.length : Int)) then
        (idx a0 s2).bind fun x3 =>
        bif !(decide (x3 = 0)) then
          some (.inr (.inr x3))
        else
          some (.inl (w64 (s2 + 1)))
      else
        some (.inr (.inl ()))) 0).bind (Sum.elim (fun (p4 : Unit) =>
  some 0) some)
def e_drive_first : Entry := ⟨49, [.ty (.sl I)], [(I, 0)], fun x => drive_first x⟩
def j_drive_first : TH := mkTH [([], 49, .block 0, { lv := [], ps := [], abn := true, D := ⟨32660⟩ }),
  ([], 49, .loop 0, { lv := [⟨none, 7, 0⟩], ps := [(I, 0)], D := ⟨32660⟩ })] []
theorem k_drive_first (x : denP e_drive_first.ps) : fnT Try.prog Hn.hints j_drive_first (tabT []) 40 49 (ofPms e_drive_first.ps x) e_drive_first.rs = e_drive_first.F x := by kernel_rfl
theorem o_drive_first : EntryOk Try.prog Hn.hints Lb e_drive_first := entry_ok tab_nil hJ 40 _ _ _ _ k_drive_first
/-- ductility/drive.within -/
def drive_within (a0 : Int) (a1 : Int) (a2 : Int) : Option Bool :=
  (bif decide (a1 ≤ a0) then
      some (decide (a0 ≤ a2))
    else
      some false).bind fun (p1 : Bool) =>
  some p1
def e_drive_within : Entry := ⟨67, [.ty I, .ty I, .ty I], [(.bool, 0)], fun x => drive_within x.1 x.2.1 x.2.2⟩
def j_drive_within : TH := mkTH [([], 67, .region 1, { lv := [⟨none, 6, 0⟩], ps := [(.bool, 0)], D := ⟨32704⟩ })] []
theorem k_drive_within (x : denP e_drive_within.ps) : fnT Try.prog Hn.hints j_drive_within (tabT []) 40 67 (ofPms e_drive_within.ps x) e_drive_within.rs = e_drive_within.F x := by kernel_rfl
theorem o_drive_within : EntryOk Try.prog Hn.hints Lb e_drive_within := entry_ok tab_nil hJ 40 _ _ _ _ k_drive_within
/-- ductility/drive.isSized -/
def drive_isSized (a0 : Int) (a1 : Int) : Option Bool :=
  (drive_within a0 (w64 (0 - a1)) a1).bind fun x1 =>
  some x1
def e_drive_isSized : Entry := ⟨84, [.ty I, .ty I], [(.bool, 0)], fun x => drive_isSized x.1 x.2⟩
def j_drive_isSized : TH := mkTH [] []
theorem k_drive_isSized (x : denP e_drive_isSized.ps) : fnT Try.prog Hn.hints j_drive_isSized (tabT [e_drive_within]) 40 84 (ofPms e_drive_isSized.ps x) e_drive_isSized.rs = e_drive_isSized.F x := by kernel_rfl
theorem o_drive_isSized : EntryOk Try.prog Hn.hints Lb e_drive_isSized := entry_ok (tab_cons o_drive_within tab_nil) hJ 40 _ _ _ _ k_drive_isSized
/-- ductility/drive.polynomialErr$1 -/
def drive_polynomialErr_1 (a0 : Int) : Option Bool :=
  (drive_isSized a0 (1000 : Int)).bind fun x1 =>
  some (!x1)
def e_drive_polynomialErr_1 : Entry := ⟨83, [.ty I], [(.bool, 0)], fun x => drive_polynomialErr_1 x⟩
def j_drive_polynomialErr_1 : TH := mkTH [] []
theorem k_drive_polynomialErr_1 (x : denP e_drive_polynomialErr_1.ps) : fnT Try.prog Hn.hints j_drive_polynomialErr_1 (tabT [e_drive_isSized]) 40 83 (ofPms e_drive_polynomialErr_1.ps x) e_drive_polynomialErr_1.rs = e_drive_polynomialErr_1.F x := by kernel_rfl
theorem o_drive_polynomialErr_1 : EntryOk Try.prog Hn.hints Lb e_drive_polynomialErr_1 := entry_ok (tab_cons o_drive_isSized tab_nil) hJ 40 _ _ _ _ k_drive_polynomialErr_1
/-- slices.IndexFunc[[]int,int] -/
def slices_IndexFunc_Lint_int_of_drive_polynomialErr_1 (a0 : (List Int)) : Option Int :=
  (loopO (fun (s2 : Int) =>
      bif decide (s2 < (a0.length : Int)) then
        (idx a0 s2).bind fun x3 =>
        (drive_polynomialErr_1 x3).bind fun x4 =>
        bif x4 then
          some (.inr (.inr s2))
        else
          some (.inl (w64 (s2 + 1)))
      else
        some (.inr (.inl ()))) 0).bind (Sum.elim (fun (p5 : Unit) =>
  some (-1)) some)
def e_slices_IndexFunc_Lint_int_of_drive_polynomialErr_1 : Entry := ⟨105, [.ty (.sl I), .fn 83 []], [(I, 0)], fun x => slices_IndexFunc_Lint_int_of_drive_polynomialErr_1 x.1⟩
def j_slices_IndexFunc_Lint_int_of_drive_polynomialErr_1 : TH := mkTH [([], 105, .block 0, { lv := [], ps := [], abn := true, D := ⟨524080⟩ }),
  ([], 105, .loop 0, { lv := [⟨none, 8, 0⟩], ps := [(I, 0)], D := ⟨524080⟩ })] []
theorem k_slices_IndexFunc_Lint_int_of_drive_polynomialErr_1 (x : denP e_slices_IndexFunc_Lint_int_of_drive_polynomialErr_1.ps) : fnT Try.prog Hn.hints j_slices_IndexFunc_Lint_int_of_drive_polynomialErr_1 (tabT [e_drive_polynomialErr_1]) 40 105 (ofPms e_slices_IndexFunc_Lint_int_of_drive_polynomialErr_1.ps x) e_slices_IndexFunc_Lint_int_of_drive_polynomialErr_1.rs = e_slices_IndexFunc_Lint_int_of_drive_polynomialErr_1.F x := by kernel_rfl
theorem o_slices_IndexFunc_Lint_int_of_drive_polynomialErr_1 : EntryOk Try.prog Hn.hints Lb e_slices_IndexFunc_Lint_int_of_drive_polynomialErr_1 := entry_ok (tab_cons o_drive_polynomialErr_1 tab_nil) hJ 40 _ _ _ _ k_slices_IndexFunc_Lint_int_of_drive_polynomialErr_1
/-- slices.ContainsFunc[[]int,int] -/
def slices_ContainsFunc_Lint_int_of_drive_polynomialErr_1 (a0 : (List Int)) : Option Bool :=
  (slices_IndexFunc_Lint_int_of_drive_polynomialErr_1 a0).bind fun x1 =>
  some (decide (x1 ≥ 0))
def e_slices_ContainsFunc_Lint_int_of_drive_polynomialErr_1 : Entry := ⟨82, [.ty (.sl I), .fn 83 []], [(.bool, 0)], fun x => slices_ContainsFunc_Lint_int_of_drive_polynomialErr_1 x.1⟩
def j_slices_ContainsFunc_Lint_int_of_drive_polynomialErr_1 : TH := mkTH [] []
theorem k_slices_ContainsFunc_Lint_int_of_drive_polynomialErr_1 (x : denP e_slices_ContainsFunc_Lint_int_of_drive_polynomialErr_1.ps) : fnT Try.prog Hn.hints j_slices_ContainsFunc_Lint_int_of_drive_polynomialErr_1 (tabT [e_slices_IndexFunc_Lint_int_of_drive_polynomialErr_1]) 40 82 (ofPms e_slices_ContainsFunc_Lint_int_of_drive_polynomialErr_1.ps x) e_slices_ContainsFunc_Lint_int_of_drive_polynomialErr_1.rs = e_slices_ContainsFunc_Lint_int_of_drive_polynomialErr_1.F x := by kernel_rfl
theorem o_slices_ContainsFunc_Lint_int_of_drive_polynomialErr_1 : EntryOk Try.prog Hn.hints Lb e_slices_ContainsFunc_Lint_int_of_drive_polynomialErr_1 := entry_ok (tab_cons o_slices_IndexFunc_Lint_int_of_drive_polynomialErr_1 tab_nil) hJ 40 _ _ _ _ k_slices_ContainsFunc_Lint_int_of_drive_polynomialErr_1
/-- ductility/drive.polynomialErr -/
def drive_polynomialErr (a0 : (List Int)) : Option Int :=
  (drive_unless (decide ((a0.length : Int) > 0)) (10 : Int)).bind fun x1 =>
  (drive_unless (decide ((a0.length : Int) ≤ 4)) (8 : Int)).bind fun x2 =>
  (drive_first ([x1, x2])).bind fun x3 =>
  bif !(decide (x3 = 0)) then
    some x3
  else
    (slices_ContainsFunc_Lint_int_of_drive_polynomialErr_1 a0).bind fun x4 =>
    (drive_unless (!x4) (2 : Int)).bind fun x5 =>
    (idx a0 0).bind fun x6 =>
    (drive_unless (!(decide (x6 = 0))) (11 : Int)).bind fun x7 =>
    (drive_first ([x5, x7])).bind fun x8 =>
    some x8
def e_drive_polynomialErr : Entry := ⟨43, [.ty (.sl I)], [(I, 0)], fun x => drive_polynomialErr x⟩
def j_drive_polynomialErr : TH := mkTH [] []
theorem k_drive_polynomialErr (x : denP e_drive_polynomialErr.ps) : fnT Try.prog Hn.hints j_drive_polynomialErr (tabT [e_drive_first, e_drive_unless, e_slices_ContainsFunc_Lint_int_of_drive_polynomialErr_1]) 40 43 (ofPms e_drive_polynomialErr.ps x) e_drive_polynomialErr.rs = e_drive_polynomialErr.F x := by kernel_rfl
theorem o_drive_polynomialErr : EntryOk Try.prog Hn.hints Lb e_drive_polynomialErr := entry_ok (tab_cons o_drive_first (tab_cons o_drive_unless (tab_cons o_slices_ContainsFunc_Lint_int_of_drive_polynomialErr_1 tab_nil))) hJ 40 _ _ _ _ k_drive_polynomialErr
/-- ductility/drive.divisor -/
def drive_divisor (a0 : (List Int)) : Option Int :=
  (loopO (fun (s2 : (Int × Int)) =>
      bif decide (s2.2 < (a0.length : Int)) then
        (idx a0 s2.2).bind fun x3 =>
        (loopO (fun (s5 : (Int × Int)) =>
            bif !(decide (s5.2 = 0)) then
              bif decide (s5.2 = 0) then
                none
              else
                some (.inl (s5.2, s5.1.tmod s5.2))
            else
              some (.inr s5.1)) (s2.1, x3)).bind fun (p6 : Int) =>
        some (.inl (p6, w64 (s2.2 + 1)))
      else
        some (.inr s2.1)) (0, 0)).bind fun (p7 : Int) =>
  some (max p7 (w64 (0 - p7)))
def e_drive_divisor : Entry := ⟨98, [.ty (.sl I)], [(I, 0)], fun x => drive_divisor x⟩
def j_drive_divisor : TH := mkTH [([], 98, .block 0, { lv := [⟨none, 3, 0⟩], ps := [(I, 0)], D := ⟨524072⟩ }),
  ([], 98, .loop 0, { lv := [⟨none, 3, 0⟩, ⟨none, 8, 0⟩], ps := [(I, 0), (I, 0)], D := ⟨524072⟩ }),
  ([], 98, .block 2, { lv := [⟨none, 3, 0⟩], ps := [(I, 0)], D := ⟨258088⟩ }),
  ([], 98, .loop 2, { lv := [⟨none, 3, 0⟩, ⟨none, 5, 0⟩], ps := [(I, 0), (I, 0)], D := ⟨258088⟩ })] []
theorem k_drive_divisor (x : denP e_drive_divisor.ps) : fnT Try.prog Hn.hints j_drive_divisor (tabT []) 40 98 (ofPms e_drive_divisor.ps x) e_drive_divisor.rs = e_drive_divisor.F x := by kernel_rfl
theorem o_drive_divisor : EntryOk Try.prog Hn.hints Lb e_drive_divisor := entry_ok tab_nil hJ 40 _ _ _ _ k_drive_divisor
/-- ductility/drive.lowest -/
def drive_lowest (a0 : (List Int)) : Option (List Int) :=
  (drive_divisor a0).bind fun x1 =>
  (idx a0 0).bind fun x2 =>
  (bif decide (x2 < 0) then
      some (w64 (0 - x1))
    else
      some x1).bind fun (p3 : Int) =>
  (loopO (fun (s6 : ((List Int) × Int)) =>
      bif decide (s6.2 < (a0.length : Int)) then
        (idx a0 s6.2).bind fun x7 =>
        bif decide (p3 = 0) then
          none
        else
          (app s6.1 ([w64 (x7.tdiv p3)])).bind fun x8 =>
          some (.inl (x8, w64 (s6.2 + 1)))
      else
        some (.inr s6.1)) ([], 0)).bind fun (p9 : (List Int)) =>
  some p9
def e_drive_lowest : Entry := ⟨85, [.ty (.sl I)], [((.sl I), 1)], fun x => drive_lowest x⟩
def j_drive_lowest : TH := mkTH [([], 85, .cond 12, { lv := [⟨none, 3, 0⟩], ps := [(I, 0)], D := ⟨24584⟩ }),
  ([], 85, .block 0, { lv := [⟨none, 4, 0⟩], ps := [((.sl I), 1)], D := ⟨268304464⟩ }),
  ([], 85, .loop 0, { lv := [⟨none, 4, 0⟩, ⟨none, 17, 0⟩], ps := [((.sl I), 1), (I, 0)], D := ⟨268304464⟩ })] []
theorem k_drive_lowest (x : denP e_drive_lowest.ps) : fnT Try.prog Hn.hints j_drive_lowest (tabT [e_drive_divisor]) 40 85 (ofPms e_drive_lowest.ps x) e_drive_lowest.rs = e_drive_lowest.F x := by kernel_rfl
theorem o_drive_lowest : EntryOk Try.prog Hn.hints Lb e_drive_lowest := entry_ok (tab_cons o_drive_divisor tab_nil) hJ 40 _ _ _ _ k_drive_lowest
/-- ductility/drive.table -/
def drive_table (a0 : (List Int)) : Option (List (List Int)) :=
  (drive_lowest a0).bind fun x1 =>
  (loopO (fun (s3 : ((List Int) × (List (List Int)))) =>
      bif decide ((s3.1.length : Int) > 1) then
        (idx s3.1 (w64 ((s3.1.length : Int) - 1))).bind fun x4 =>
        (idx s3.1 0).bind fun x5 =>
        (drive_isSized x4 (w64 (x5 - 1))).bind fun x6 =>
        bif !x6 then
          some (.inr (.inl s3.2))
        else
          bif decide (w64 ((s3.1.length : Int) - 1) = 1) then
            (app s3.2 ([[1]])).bind fun x7 =>
            some (.inr (.inr x7))
          else
            (loopO (fun (s10 : ((List Int) × Int)) =>
                bif decide (s10.2 < w64 ((s3.1.length : Int) - 1)) then
                  (idx s3.1 0).bind fun x11 =>
                  (idx s3.1 s10.2).bind fun x12 =>
                  (idx s3.1 (w64 ((s3.1.length : Int) - 1))).bind fun x13 =>
                  (idx s3.1 (w64 ((w64 ((s3.1.length : Int) - 1)) - s10.2))).bind fun x14 =>
                  (app s10.1 ([w64 ((w64 (x11 * x12)) - (w64 (x13 * x14)))])).bind fun x15 =>
                  some (.inl (x15, w64 (s10.2 + 1)))
                else
                  some (.inr s10.1)) ([], 0)).bind fun (p16 : (List Int)) =>
            (drive_lowest p16).bind fun x17 =>
            (app s3.2 ([x17])).bind fun x18 =>
            some (.inl (x17, x18))
      else
        some (.inr (.inl s3.2))) (x1, [x1])).bind (Sum.elim (fun (p19 : (List (List Int))) =>
  some p19) some)
def e_drive_table : Entry := ⟨44, [.ty (.sl I)], [((.sl (.sl I)), 2001)], fun x => drive_table x⟩
def j_drive_table : TH := mkTH [([], 44, .block 0, { lv := [⟨none, 4, 0⟩], ps := [((.sl (.sl I)), 1)], abn := true, D := ⟨295147905179352822012⟩ }),
  ([], 44, .loop 0, { lv := [⟨none, 3, 0⟩, ⟨none, 4, 0⟩], ps := [((.sl I), 1), ((.sl (.sl I)), 1)], D := ⟨295147905179352822012⟩ }),
  ([], 44, .block 2, { lv := [⟨none, 6, 0⟩], ps := [((.sl I), 1)], D := ⟨4611685984067649728⟩ }),
  ([], 44, .loop 2, { lv := [⟨none, 6, 0⟩, ⟨none, 35, 0⟩], ps := [((.sl I), 1), (I, 0)], D := ⟨4611685984067649728⟩ })] []
theorem k_drive_table (x : denP e_drive_table.ps) : fnT Try.prog Hn.hints j_drive_table (tabT [e_drive_isSized, e_drive_lowest]) 40 44 (ofPms e_drive_table.ps x) e_drive_table.rs = e_drive_table.F x := by kernel_rfl
theorem o_drive_table : EntryOk Try.prog Hn.hints Lb e_drive_table := entry_ok (tab_cons o_drive_isSized (tab_cons o_drive_lowest tab_nil)) hJ 40 _ _ _ _ k_drive_table
/-- ductility/drive.TableOf -/
def drive_TableOf (a0 : (List Int)) : Option ((List (List Int)) × Int) :=
  (drive_polynomialErr a0).bind fun x1 =>
  bif !(decide (x1 = 0)) then
    some ([], x1)
  else
    (drive_table a0).bind fun x2 =>
    some (x2, 0)
def e_drive_TableOf : Entry := ⟨8, [.ty (.sl I)], [((.sl (.sl I)), 2001), (I, 0)], fun x => drive_TableOf x⟩
def j_drive_TableOf : TH := mkTH [] []
theorem k_drive_TableOf (x : denP e_drive_TableOf.ps) : fnT Try.prog Hn.hints j_drive_TableOf (tabT [e_drive_polynomialErr, e_drive_table]) 40 8 (ofPms e_drive_TableOf.ps x) e_drive_TableOf.rs = e_drive_TableOf.F x := by kernel_rfl
theorem o_drive_TableOf : EntryOk Try.prog Hn.hints Lb e_drive_TableOf := entry_ok (tab_cons o_drive_polynomialErr (tab_cons o_drive_table tab_nil)) hJ 40 _ _ _ _ k_drive_TableOf
/-- ductility/drive.isStable -/
def drive_isStable (a0 : (List Int)) : Option Bool :=
  (drive_table a0).bind fun x1 =>
  (idx x1 (w64 ((x1.length : Int) - 1))).bind fun x2 =>
  some (decide ((x2.length : Int) = 1))
def e_drive_isStable : Entry := ⟨45, [.ty (.sl I)], [(.bool, 0)], fun x => drive_isStable x⟩
def j_drive_isStable : TH := mkTH [] []
theorem k_drive_isStable (x : denP e_drive_isStable.ps) : fnT Try.prog Hn.hints j_drive_isStable (tabT [e_drive_table]) 40 45 (ofPms e_drive_isStable.ps x) e_drive_isStable.rs = e_drive_isStable.F x := by kernel_rfl
theorem o_drive_isStable : EntryOk Try.prog Hn.hints Lb e_drive_isStable := entry_ok (tab_cons o_drive_table tab_nil) hJ 40 _ _ _ _ k_drive_isStable
/-- ductility/drive.IsStable -/
def drive_IsStable (a0 : (List Int)) : Option (Bool × Int) :=
  (drive_polynomialErr a0).bind fun x1 =>
  (bif decide (x1 = 0) then
      (drive_isStable a0).bind fun x2 =>
      some (x2, x1)
    else
      some (false, x1)).bind fun (p3 : (Bool × Int)) =>
  some (p3.1, p3.2)
def e_drive_IsStable : Entry := ⟨10, [.ty (.sl I)], [(.bool, 0), (I, 0)], fun x => drive_IsStable x⟩
def j_drive_IsStable : TH := mkTH [([], 10, .region 2, { lv := [⟨none, 2, 0⟩, ⟨none, 3, 0⟩], ps := [(.bool, 0), (I, 0)], D := ⟨16268⟩ })] []
theorem k_drive_IsStable (x : denP e_drive_IsStable.ps) : fnT Try.prog Hn.hints j_drive_IsStable (tabT [e_drive_isStable, e_drive_polynomialErr]) 40 10 (ofPms e_drive_IsStable.ps x) e_drive_IsStable.rs = e_drive_IsStable.F x := by kernel_rfl
theorem o_drive_IsStable : EntryOk Try.prog Hn.hints Lb e_drive_IsStable := entry_ok (tab_cons o_drive_isStable (tab_cons o_drive_polynomialErr tab_nil)) hJ 40 _ _ _ _ k_drive_IsStable
/-- ductility/ductilitybase.Within -/
def base_Within (a0 : Int) (a1 : Int) (a2 : Int) : Option Bool :=
  (bif decide (a1 ≤ a0) then
      some (decide (a0 ≤ a2))
    else
      some false).bind fun (p1 : Bool) =>
  some p1
def e_base_Within : Entry := ⟨17, [.ty I, .ty I, .ty I], [(.bool, 0)], fun x => base_Within x.1 x.2.1 x.2.2⟩
def j_base_Within : TH := mkTH [([], 17, .region 1, { lv := [⟨none, 6, 0⟩], ps := [(.bool, 0)], D := ⟨32704⟩ })] []
theorem k_base_Within (x : denP e_base_Within.ps) : fnT Try.prog Hn.hints j_base_Within (tabT []) 40 17 (ofPms e_base_Within.ps x) e_base_Within.rs = e_base_Within.F x := by kernel_rfl
theorem o_base_Within : EntryOk Try.prog Hn.hints Lb e_base_Within := entry_ok tab_nil hJ 40 _ _ _ _ k_base_Within
/-- ductility/ductilityref04.PolynomialErr -/
def ref04_PolynomialErr (a0 : (List Int)) : Option Int :=
  bif decide ((a0.length : Int) = 0) then
    some 10
  else
    bif decide ((a0.length : Int) > 4) then
      some 8
    else
      (loopO (fun (s2 : Int) =>
          bif decide (s2 < (a0.length : Int)) then
            (idx a0 s2).bind fun x3 =>
            (base_Within x3 (-1000 : Int) (1000 : Int)).bind fun x4 =>
            bif !x4 then
              some (.inr (.inr 2))
            else
              some (.inl (w64 (s2 + 1)))
          else
            some (.inr (.inl ()))) 0).bind (Sum.elim (fun (p5 : Unit) =>
      (idx a0 0).bind fun x6 =>
      bif decide (x6 = 0) then
        some 11
      else
        some 0) some)
def e_ref04_PolynomialErr : Entry := ⟨11, [.ty (.sl I)], [(I, 0)], fun x => ref04_PolynomialErr x⟩
def j_ref04_PolynomialErr : TH := mkTH [([], 11, .block 0, { lv := [], ps := [], abn := true, D := ⟨4193292⟩ }),
  ([], 11, .loop 0, { lv := [⟨none, 3, 0⟩], ps := [(I, 0)], D := ⟨4193292⟩ })] []
theorem k_ref04_PolynomialErr (x : denP e_ref04_PolynomialErr.ps) : fnT Try.prog Hn.hints j_ref04_PolynomialErr (tabT [e_base_Within]) 40 11 (ofPms e_ref04_PolynomialErr.ps x) e_ref04_PolynomialErr.rs = e_ref04_PolynomialErr.F x := by kernel_rfl
theorem o_ref04_PolynomialErr : EntryOk Try.prog Hn.hints Lb e_ref04_PolynomialErr := entry_ok (tab_cons o_base_Within tab_nil) hJ 40 _ _ _ _ k_ref04_PolynomialErr
/-- ductility/ductilitybase.Size -/
def base_Size (a0 : Int) : Option Int :=
  some (max a0 (w64 (0 - a0)))
def e_base_Size : Entry := ⟨16, [.ty I], [(I, 0)], fun x => base_Size x⟩
def j_base_Size : TH := mkTH [] []
theorem k_base_Size (x : denP e_base_Size.ps) : fnT Try.prog Hn.hints j_base_Size (tabT []) 40 16 (ofPms e_base_Size.ps x) e_base_Size.rs = e_base_Size.F x := by kernel_rfl
theorem o_base_Size : EntryOk Try.prog Hn.hints Lb e_base_Size := entry_ok tab_nil hJ 40 _ _ _ _ k_base_Size
/-- ductility/ductilitybase.Gcd -/
def base_Gcd (a0 : Int) (a1 : Int) : Option Int :=
  (loopO (fun (s2 : (Int × Int)) =>
      bif !(decide (s2.2 = 0)) then
        bif decide (s2.2 = 0) then
          none
        else
          some (.inl (s2.2, s2.1.tmod s2.2))
      else
        some (.inr s2.1)) (a0, a1)).bind fun (p3 : Int) =>
  (base_Size p3).bind fun x4 =>
  some x4
def e_base_Gcd : Entry := ⟨86, [.ty I, .ty I], [(I, 0)], fun x => base_Gcd x.1 x.2⟩
def j_base_Gcd : TH := mkTH [([], 86, .block 0, { lv := [⟨none, 0, 0⟩], ps := [(I, 0)], D := ⟨2019⟩ }),
  ([], 86, .loop 0, { lv := [⟨none, 0, 0⟩, ⟨none, 1, 0⟩], ps := [(I, 0), (I, 0)], D := ⟨2019⟩ })] []
theorem k_base_Gcd (x : denP e_base_Gcd.ps) : fnT Try.prog Hn.hints j_base_Gcd (tabT [e_base_Size]) 40 86 (ofPms e_base_Gcd.ps x) e_base_Gcd.rs = e_base_Gcd.F x := by kernel_rfl
theorem o_base_Gcd : EntryOk Try.prog Hn.hints Lb e_base_Gcd := entry_ok (tab_cons o_base_Size tab_nil) hJ 40 _ _ _ _ k_base_Gcd
/-- ductility/ductilityref04.reduced -/
def ref04_reduced (a0 : (List Int)) : Option (List Int) :=
  (loopO (fun (s2 : (Int × Int)) =>
      bif decide (s2.2 < (a0.length : Int)) then
        (idx a0 s2.2).bind fun x3 =>
        (base_Gcd s2.1 x3).bind fun x4 =>
        some (.inl (x4, w64 (s2.2 + 1)))
      else
        some (.inr s2.1)) (0, 0)).bind fun (p5 : Int) =>
  (idx a0 0).bind fun x6 =>
  (bif decide (x6 < 0) then
      some (w64 (0 - p5))
    else
      some p5).bind fun (p7 : Int) =>
  (loopO (fun (s10 : ((List Int) × Int)) =>
      bif decide (s10.2 < (a0.length : Int)) then
        (idx a0 s10.2).bind fun x11 =>
        bif decide (p7 = 0) then
          none
        else
          (app s10.1 ([w64 (x11.tdiv p7)])).bind fun x12 =>
          some (.inl (x12, w64 (s10.2 + 1)))
      else
        some (.inr s10.1)) ([], 0)).bind fun (p13 : (List Int)) =>
  some p13
def e_ref04_reduced : Entry := ⟨47, [.ty (.sl I)], [((.sl I), 1)], fun x => ref04_reduced x⟩
def j_ref04_reduced : TH := mkTH [([], 47, .block 0, { lv := [⟨none, 3, 0⟩], ps := [(I, 0)], D := ⟨524216⟩ }),
  ([], 47, .loop 0, { lv := [⟨none, 3, 0⟩, ⟨none, 4, 0⟩], ps := [(I, 0), (I, 0)], D := ⟨524216⟩ }),
  ([], 47, .cond 22, { lv := [⟨none, 3, 0⟩], ps := [(I, 0)], D := ⟨25165832⟩ }),
  ([], 47, .block 2, { lv := [⟨none, 5, 0⟩], ps := [((.sl I), 1)], D := ⟨1099478073440⟩ }),
  ([], 47, .loop 2, { lv := [⟨none, 5, 0⟩, ⟨none, 6, 0⟩], ps := [((.sl I), 1), (I, 0)], D := ⟨1099478073440⟩ })] []
theorem k_ref04_reduced (x : denP e_ref04_reduced.ps) : fnT Try.prog Hn.hints j_ref04_reduced (tabT [e_base_Gcd]) 40 47 (ofPms e_ref04_reduced.ps x) e_ref04_reduced.rs = e_ref04_reduced.F x := by kernel_rfl
theorem o_ref04_reduced : EntryOk Try.prog Hn.hints Lb e_ref04_reduced := entry_ok (tab_cons o_base_Gcd tab_nil) hJ 40 _ _ _ _ k_ref04_reduced
/-- ductility/ductilityref04.Table -/
def ref04_Table (a0 : (List Int)) : Option (List (List Int)) :=
  (ref04_reduced a0).bind fun x1 =>
  (loopO (fun (s3 : ((List Int) × (List (List Int)))) =>
      (bif decide ((s3.1.length : Int) > 1) then
          (idx s3.1 (w64 ((s3.1.length : Int) - 1))).bind fun x4 =>
          (base_Size x4).bind fun x5 =>
          (idx s3.1 0).bind fun x6 =>
          some (decide (x5 < x6))
        else
          some false).bind fun (p7 : Bool) =>
      bif p7 then
        bif decide (w64 ((s3.1.length : Int) - 1) = 1) then
          (app s3.2 ([[1]])).bind fun x8 =>
          some (.inr (.inr x8))
        else
          (loopO (fun (s11 : ((List Int) × Int)) =>
              bif decide (s11.2 < w64 ((s3.1.length : Int) - 1)) then
                (idx s3.1 0).bind fun x12 =>
                (idx s3.1 s11.2).bind fun x13 =>
                (idx s3.1 (w64 ((s3.1.length : Int) - 1))).bind fun x14 =>
                (idx s3.1 (w64 ((w64 ((s3.1.length : Int) - 1)) - s11.2))).bind fun x15 =>
                (app s11.1 ([w64 ((w64 (x12 * x13)) - (w64 (x14 * x15)))])).bind fun x16 =>
                some (.inl (x16, w64 (s11.2 + 1)))
              else
                some (.inr s11.1)) ([], 0)).bind fun (p17 : (List Int)) =>
          (ref04_reduced p17).bind fun x18 =>
          (app s3.2 ([x18])).bind fun x19 =>
          some (.inl (x18, x19))
      else
        some (.inr (.inl s3.2))) (x1, [x1])).bind (Sum.elim (fun (p20 : (List (List Int))) =>
  some p20) some)
def e_ref04_Table : Entry := ⟨13, [.ty (.sl I)], [((.sl (.sl I)), 2001)], fun x => ref04_Table x⟩
def j_ref04_Table : TH := mkTH [([], 13, .block 0, { lv := [⟨none, 4, 0⟩], ps := [((.sl (.sl I)), 1)], abn := true, D := ⟨2361183241434822603004⟩ }),
  ([], 13, .loop 0, { lv := [⟨none, 3, 0⟩, ⟨none, 4, 0⟩], ps := [((.sl I), 1), ((.sl (.sl I)), 1)], D := ⟨2361183241434822603004⟩ }),
  ([], 13, .region 3, { lv := [⟨none, 27, 0⟩], ps := [(.bool, 0)], D := ⟨268431360⟩ }),
  ([], 13, .block 2, { lv := [⟨none, 6, 0⟩], ps := [((.sl I), 1)], D := ⟨36893488009980149952⟩ }),
  ([], 13, .loop 2, { lv := [⟨none, 6, 0⟩, ⟨none, 7, 0⟩], ps := [((.sl I), 1), (I, 0)], D := ⟨36893488009980149952⟩ })] []
theorem k_ref04_Table (x : denP e_ref04_Table.ps) : fnT Try.prog Hn.hints j_ref04_Table (tabT [e_base_Size, e_ref04_reduced]) 40 13 (ofPms e_ref04_Table.ps x) e_ref04_Table.rs = e_ref04_Table.F x := by kernel_rfl
theorem o_ref04_Table : EntryOk Try.prog Hn.hints Lb e_ref04_Table := entry_ok (tab_cons o_base_Size (tab_cons o_ref04_reduced tab_nil)) hJ 40 _ _ _ _ k_ref04_Table
/-- ductility/ductilitybase.Ints -/
def base_Ints (a0 : (List Int)) (a1 : (List Int)) : Option Bool :=
  bif !(decide ((a0.length : Int) = (a1.length : Int))) then
    some false
  else
    (loopO (fun (s2 : Int) =>
        bif decide (s2 < (a0.length : Int)) then
          (idx a0 s2).bind fun x3 =>
          (idx a1 s2).bind fun x4 =>
          bif !(decide (x3 = x4)) then
            some (.inr (.inr false))
          else
            some (.inl (w64 (s2 + 1)))
        else
          some (.inr (.inl ()))) 0).bind (Sum.elim (fun (p5 : Unit) =>
    some true) some)
def e_base_Ints : Entry := ⟨46, [.ty (.sl I), .ty (.sl I)], [(.bool, 0)], fun x => base_Ints x.1 x.2⟩
def j_base_Ints : TH := mkTH [([], 46, .block 0, { lv := [], ps := [], abn := true, D := ⟨67106864⟩ }),
  ([], 46, .loop 0, { lv := [⟨none, 5, 0⟩], ps := [(I, 0)], D := ⟨67106864⟩ })] []
theorem k_base_Ints (x : denP e_base_Ints.ps) : fnT Try.prog Hn.hints j_base_Ints (tabT []) 40 46 (ofPms e_base_Ints.ps x) e_base_Ints.rs = e_base_Ints.F x := by kernel_rfl
theorem o_base_Ints : EntryOk Try.prog Hn.hints Lb e_base_Ints := entry_ok tab_nil hJ 40 _ _ _ _ k_base_Ints
/-- ductility/ductilitybase.Lists -/
def base_Lists (a0 : (List (List Int))) (a1 : (List (List Int))) : Option Bool :=
  bif !(decide ((a0.length : Int) = (a1.length : Int))) then
    some false
  else
    (loopO (fun (s2 : Int) =>
        bif decide (s2 < (a0.length : Int)) then
          (idx a0 s2).bind fun x3 =>
          (idx a1 s2).bind fun x4 =>
          (base_Ints x3 x4).bind fun x5 =>
          bif !x5 then
            some (.inr (.inr false))
          else
            some (.inl (w64 (s2 + 1)))
        else
          some (.inr (.inl ()))) 0).bind (Sum.elim (fun (p6 : Unit) =>
    some true) some)
def e_base_Lists : Entry := ⟨12, [.ty (.sl (.sl I)), .ty (.sl (.sl I))], [(.bool, 0)], fun x => base_Lists x.1 x.2⟩
def j_base_Lists : TH := mkTH [([], 12, .block 0, { lv := [], ps := [], abn := true, D := ⟨134215728⟩ }),
  ([], 12, .loop 0, { lv := [⟨none, 5, 0⟩], ps := [(I, 0)], D := ⟨134215728⟩ })] []
theorem k_base_Lists (x : denP e_base_Lists.ps) : fnT Try.prog Hn.hints j_base_Lists (tabT [e_base_Ints]) 40 12 (ofPms e_base_Lists.ps x) e_base_Lists.rs = e_base_Lists.F x := by kernel_rfl
theorem o_base_Lists : EntryOk Try.prog Hn.hints Lb e_base_Lists := entry_ok (tab_cons o_base_Ints tab_nil) hJ 40 _ _ _ _ k_base_Lists
/-- ductility/ductilityref04.IsStable -/
def ref04_IsStable (a0 : (List Int)) : Option Bool :=
  (ref04_Table a0).bind fun x1 =>
  (idx x1 (w64 ((x1.length : Int) - 1))).bind fun x2 =>
  some (decide ((x2.length : Int) = 1))
def e_ref04_IsStable : Entry := ⟨14, [.ty (.sl I)], [(.bool, 0)], fun x => ref04_IsStable x⟩
def j_ref04_IsStable : TH := mkTH [] []
theorem k_ref04_IsStable (x : denP e_ref04_IsStable.ps) : fnT Try.prog Hn.hints j_ref04_IsStable (tabT [e_ref04_Table]) 40 14 (ofPms e_ref04_IsStable.ps x) e_ref04_IsStable.rs = e_ref04_IsStable.F x := by kernel_rfl
theorem o_ref04_IsStable : EntryOk Try.prog Hn.hints Lb e_ref04_IsStable := entry_ok (tab_cons o_ref04_Table tab_nil) hJ 40 _ _ _ _ k_ref04_IsStable
/-- ductility/ductilitybase.Mod -/
def base_Mod (a0 : Int) (a1 : Int) : Option Int :=
  bif decide (a1 = 0) then
    none
  else
    (bif decide (a0.tmod a1 < 0) then
        some (w64 ((a0.tmod a1) + a1))
      else
        some (a0.tmod a1)).bind fun (p1 : Int) =>
    some p1
def e_base_Mod : Entry := ⟨15, [.ty I, .ty I], [(I, 0)], fun x => base_Mod x.1 x.2⟩
def j_base_Mod : TH := mkTH [([], 15, .cond 9, { lv := [⟨none, 0, 0⟩], ps := [(I, 0)], D := ⟨7169⟩ })] []
theorem k_base_Mod (x : denP e_base_Mod.ps) : fnT Try.prog Hn.hints j_base_Mod (tabT []) 40 15 (ofPms e_base_Mod.ps x) e_base_Mod.rs = e_base_Mod.F x := by kernel_rfl
theorem o_base_Mod : EntryOk Try.prog Hn.hints Lb e_base_Mod := entry_ok tab_nil hJ 40 _ _ _ _ k_base_Mod
/-- ductility/ductilitylaw04.DriveTables -/
def law04_DriveTables (a0 : (List Int)) : Option Bool :=
  (law04_awake).bind fun x1 =>
  bif !x1 then
    some false
  else
    bif decide ((a0.length : Int) > 6) then
      some true
    else
      (base_CopyInts a0).bind fun x2 =>
      (drive_TableOf x2).bind fun x3 =>
      (base_CopyInts a0).bind fun x4 =>
      (drive_IsStable x4).bind fun x5 =>
      (ref04_PolynomialErr a0).bind fun x6 =>
      bif !(decide (x6 = 0)) then
        (bif decide (x3.2 = x6) then
            bif decide (x5.2 = x6) then
              bif decide ((x3.1.length : Int) = 0) then
                some (!x5.1)
              else
                some false
            else
              some false
          else
            some false).bind fun (p7 : Bool) =>
        some p7
      else
        (bif !(decide (x3.2 = 0)) then
            some true
          else
            (ref04_Table a0).bind fun x8 =>
            (base_Lists x3.1 x8).bind fun x9 =>
            bif !x9 then
              some true
            else
              bif !(decide (x5.2 = 0)) then
                some true
              else
                (ref04_IsStable a0).bind fun x10 =>
                some (!(x5.1 == x10))).bind fun (p11 : Bool) =>
        bif p11 then
          some false
        else
          (loopO (fun (s14 : ((List Int) × (List Int) × Int)) =>
              bif decide (s14.2.2 < (a0.length : Int)) then
                (idx a0 s14.2.2).bind fun x15 =>
                (base_Mod s14.2.2 (2 : Int)).bind fun x16 =>
                (bif decide (x16 = 1) then
                    some (w64 (0 - x15))
                  else
                    some x15).bind fun (p17 : Int) =>
                (app s14.1 ([p17])).bind fun x18 =>
                (idx a0 s14.2.2).bind fun x19 =>
                (app s14.2.1 ([w64 (0 - x19)])).bind fun x20 =>
                some (.inl (x18, x20, w64 (s14.2.2 + 1)))
              else
                some (.inr (s14.1, s14.2.1))) ([], [], 0)).bind fun (p21 : ((List Int) × (List Int))) =>
          (drive_IsStable p21.1).bind fun x22 =>
          (drive_IsStable p21.2).bind fun x23 =>
          (bif decide (x22.2 = 0) then
              bif decide (x23.2 = 0) then
                bif (x22.1 == x5.1) then
                  bif (x23.1 == x5.1) then
                    bif !x5.1 then
                      some true
                    else
                      bif decide ((a0.length : Int) = 1) then
                        some true
                      else
                        (idx a0 (w64 ((a0.length : Int) - 1))).bind fun x24 =>
                        (base_Size x24).bind fun x25 =>
                        (idx a0 0).bind fun x26 =>
                        (base_Size x26).bind fun x27 =>
                        some (decide (x25 < x27))
                  else
                    some false
                else
                  some false
              else
                some false
            else
              some false).bind fun (p28 : Bool) =>
          some p28
def e_law04_DriveTables : Entry := ⟨3, [.ty (.sl I)], [(.bool, 0)], fun x => law04_DriveTables x⟩
def j_law04_DriveTables : TH := mkTH [([], 3, .region 9, { lv := [⟨none, 2, 0⟩], ps := [(.bool, 0)], D := ⟨18014261070528524⟩ }),
  ([], 3, .region 10, { lv := [⟨none, 72, 0⟩], ps := [(.bool, 0)], D := ⟨9444714951340780945416⟩ }),
  ([], 3, .block 0, { lv := [⟨none, 8, 0⟩, ⟨none, 9, 0⟩], ps := [((.sl I), 1), ((.sl I), 1)], D := ⟨1267650590783496435757412781832⟩ }),
  ([], 3, .loop 0, { lv := [⟨none, 8, 0⟩, ⟨none, 9, 0⟩, ⟨none, 10, 0⟩], ps := [((.sl I), 1), ((.sl I), 1), (I, 0)], D := ⟨1267650590783496435757412781832⟩ }),
  ([], 3, .cond 85, { lv := [⟨none, 11, 0⟩], ps := [(I, 0)], D := ⟨232113757366008801543587840⟩ }),
  ([], 3, .region 22, { lv := [⟨none, 2, 0⟩], ps := [(.bool, 0)], D := ⟨713623846351681866314509277817614944109068292⟩ })] []
theorem k_law04_DriveTables (x : denP e_law04_DriveTables.ps) : fnT Try.prog Hn.hints j_law04_DriveTables (tabT [e_base_CopyInts, e_base_Lists, e_base_Mod, e_base_Size, e_drive_IsStable, e_drive_TableOf, e_law04_awake, e_ref04_IsStable, e_ref04_PolynomialErr, e_ref04_Table]) 40 3 (ofPms e_law04_DriveTables.ps x) e_law04_DriveTables.rs = e_law04_DriveTables.F x := by kernel_rfl
theorem o_law04_DriveTables : EntryOk Try.prog Hn.hints Lb e_law04_DriveTables := entry_ok (tab_cons o_base_CopyInts (tab_cons o_base_Lists (tab_cons o_base_Mod (tab_cons o_base_Size (tab_cons o_drive_IsStable (tab_cons o_drive_TableOf (tab_cons o_law04_awake (tab_cons o_ref04_IsStable (tab_cons o_ref04_PolynomialErr (tab_cons o_ref04_Table tab_nil)))))))))) hJ 40 _ _ _ _ k_law04_DriveTables
/-- ductility/ductilitylaw04.DriveStable -/
def law04_DriveStable (a0 : (List Int)) (a1 : (Int × Int × Unit)) : Option Bool :=
  (law04_awake).bind fun x1 =>
  bif !x1 then
    some false
  else
    ((ref04_PolynomialErr a0).bind fun x2 =>
      bif !(decide (x2 = 0)) then
        some true
      else
        bif decide ((a0.length : Int) > 3) then
          some true
        else
          bif decide (a1.1 = 0) then
            some true
          else
            (base_Within a1.1 (-15 : Int) (15 : Int)).bind fun x3 =>
            bif !x3 then
              some true
            else
              (base_Within a1.2.1 (-15 : Int) (15 : Int)).bind fun x4 =>
              some (!x4)).bind fun (p5 : Bool) =>
    bif p5 then
      some true
    else
      (mkS (0 : Int) (w64 ((a0.length : Int) + 1))).bind fun x6 =>
      bif decide (w64 ((a0.length : Int) + 1) = w64 ((a0.length : Int) + 1)) then
        (loopO (fun (s8 : ((List Int) × Int)) =>
            bif decide (s8.2 < (a0.length : Int)) then
              (idx a0 s8.2).bind fun x9 =>
              (base_Within x9 (-30 : Int) (30 : Int)).bind fun x10 =>
              bif !x10 then
                some (.inr (.inr true))
              else
                (idx s8.1 s8.2).bind fun x11 =>
                (idx a0 s8.2).bind fun x12 =>
                (idx s8.1 s8.2).bind fun x13 =>
                (idx s8.1 s8.2).bind fun x14 =>
                let l15 : (List Int) := List.set s8.1 s8.2.toNat (w64 (x11 + (w64 (a1.1 * x12))))
                (idx l15 (w64 (s8.2 + 1))).bind fun x16 =>
                (idx a0 s8.2).bind fun x17 =>
                (idx l15 (w64 (s8.2 + 1))).bind fun x18 =>
                (idx l15 (w64 (s8.2 + 1))).bind fun x19 =>
                let l20 : (List Int) := List.set l15 (w64 (s8.2 + 1)).toNat (w64 (x16 + (w64 (a1.2.1 * x17))))
                some (.inl (l20, w64 (s8.2 + 1)))
            else
              some (.inr (.inl s8.1))) (x6, 0)).bind (Sum.elim (fun (p21 : (List Int)) =>
        (base_CopyInts a0).bind fun x22 =>
        (drive_IsStable x22).bind fun x23 =>
        (drive_IsStable p21).bind fun x24 =>
        (bif decide (x23.2 = 0) then
            bif decide (x24.2 = 0) then
              bif x23.1 then
                (base_Size a1.2.1).bind fun x25 =>
                (base_Size a1.1).bind fun x26 =>
                some (x24.1 == decide (x25 < x26))
              else
                some (x24.1 == false)
            else
              some false
          else
            some false).bind fun (p27 : Bool) =>
        some p27) some)
      else
        none
def e_law04_DriveStable : Entry := ⟨4, [.ty (.sl I), .ty (.pair I (.pair I .unit))], [(.bool, 0)], fun x => law04_DriveStable x.1 x.2⟩
def j_law04_DriveStable : TH := mkTH [([], 4, .region 3, { lv := [⟨none, 37, 0⟩], ps := [(.bool, 0)], D := ⟨274877898752⟩, rs := [⟨0, 3⟩] }),
  ([], 4, .block 0, { lv := [⟨none, 5, 0⟩], ps := [((.sl I), 1)], abn := true, D := ⟨77371252455334068157939824⟩, rs := [⟨0, 3⟩] }),
  ([], 4, .loop 0, { lv := [⟨none, 5, 0⟩, ⟨none, 6, 0⟩], ps := [((.sl I), 1), (I, 0)], D := ⟨77371252455334068157939824⟩, rs := [⟨0, 3⟩] }),
  ([], 4, .region 15, { lv := [⟨none, 4, 0⟩], ps := [(.bool, 0)], D := ⟨166153341016789455584300695447142416⟩, rs := [⟨0, 3⟩] })] []
theorem k_law04_DriveStable (x : denP e_law04_DriveStable.ps) : fnT Try.prog Hn.hints j_law04_DriveStable (tabT [e_base_CopyInts, e_base_Size, e_base_Within, e_drive_IsStable, e_law04_awake, e_ref04_PolynomialErr]) 40 4 (ofPms e_law04_DriveStable.ps x) e_law04_DriveStable.rs = e_law04_DriveStable.F x := by kernel_rfl
theorem o_law04_DriveStable : EntryOk Try.prog Hn.hints Lb e_law04_DriveStable := entry_ok (tab_cons o_base_CopyInts (tab_cons o_base_Size (tab_cons o_base_Within (tab_cons o_drive_IsStable (tab_cons o_law04_awake (tab_cons o_ref04_PolynomialErr tab_nil)))))) hJ 40 _ _ _ _ k_law04_DriveStable
/-- ductility/ductilitylaw04.fewOf -/
def law04_fewOf (a0 : (List (List (Int × Int × Unit)))) (a1 : Int) : Option Bool :=
  bif decide ((a0.length : Int) > a1) then
    some false
  else
    (loopO (fun (s2 : Int) =>
        bif decide (s2 < (a0.length : Int)) then
          (idx a0 s2).bind fun x3 =>
          bif decide ((x3.length : Int) > 5) then
            some (.inr (.inr false))
          else
            some (.inl (w64 (s2 + 1)))
        else
          some (.inr (.inl ()))) 0).bind (Sum.elim (fun (p4 : Unit) =>
    some true) some)
def e_law04_fewOf : Entry := ⟨48, [.ty (.sl (.sl (.pair I (.pair I .unit)))), .ty I], [(.bool, 0)], fun x => law04_fewOf x.1 x.2⟩
def j_law04_fewOf : TH := mkTH [([], 48, .block 0, { lv := [], ps := [], abn := true, D := ⟨4193328⟩ }),
  ([], 48, .loop 0, { lv := [⟨none, 5, 0⟩], ps := [(I, 0)], D := ⟨4193328⟩ })] []
theorem k_law04_fewOf (x : denP e_law04_fewOf.ps) : fnT Try.prog Hn.hints j_law04_fewOf (tabT []) 40 48 (ofPms e_law04_fewOf.ps x) e_law04_fewOf.rs = e_law04_fewOf.F x := by kernel_rfl
theorem o_law04_fewOf : EntryOk Try.prog Hn.hints Lb e_law04_fewOf := entry_ok tab_nil hJ 40 _ _ _ _ k_law04_fewOf
/-- ductility/ductilitylaw04.few -/
def law04_few (a0 : (List (List (Int × Int × Unit)))) : Option Bool :=
  (law04_fewOf a0 (5 : Int)).bind fun x1 =>
  some x1
def e_law04_few : Entry := ⟨18, [.ty (.sl (.sl (.pair I (.pair I .unit))))], [(.bool, 0)], fun x => law04_few x⟩
def j_law04_few : TH := mkTH [] []
theorem k_law04_few (x : denP e_law04_few.ps) : fnT Try.prog Hn.hints j_law04_few (tabT [e_law04_fewOf]) 40 18 (ofPms e_law04_few.ps x) e_law04_few.rs = e_law04_few.F x := by kernel_rfl
theorem o_law04_few : EntryOk Try.prog Hn.hints Lb e_law04_few := entry_ok (tab_cons o_law04_fewOf tab_nil) hJ 40 _ _ _ _ k_law04_few
/-- ductility/ductilitybase.CopyGausses -/
def base_CopyGausses (a0 : (List (Int × Int × Unit))) : Option (List (Int × Int × Unit)) :=
  (app [] a0).bind fun x1 =>
  some x1
def e_base_CopyGausses : Entry := ⟨54, [.ty (.sl (.pair I (.pair I .unit)))], [((.sl (.pair I (.pair I .unit))), 1)], fun x => base_CopyGausses x⟩
def j_base_CopyGausses : TH := mkTH [] []
theorem k_base_CopyGausses (x : denP e_base_CopyGausses.ps) : fnT Try.prog Hn.hints j_base_CopyGausses (tabT []) 40 54 (ofPms e_base_CopyGausses.ps x) e_base_CopyGausses.rs = e_base_CopyGausses.F x := by kernel_rfl
theorem o_base_CopyGausses : EntryOk Try.prog Hn.hints Lb e_base_CopyGausses := entry_ok tab_nil hJ 40 _ _ _ _ k_base_CopyGausses
/-- ductility/ductilityref04.CopyMatrix -/
def ref04_CopyMatrix (a0 : (List (List (Int × Int × Unit)))) : Option (List (List (Int × Int × Unit))) :=
  (loopO (fun (s3 : ((List (List (Int × Int × Unit))) × Int)) =>
      bif decide (s3.2 < (a0.length : Int)) then
        (idx a0 s3.2).bind fun x4 =>
        (base_CopyGausses x4).bind fun x5 =>
        (app s3.1 ([x5])).bind fun x6 =>
        some (.inl (x6, w64 (s3.2 + 1)))
      else
        some (.inr s3.1)) ([], 0)).bind fun (p7 : (List (List (Int × Int × Unit)))) =>
  some p7
def e_ref04_CopyMatrix : Entry := ⟨20, [.ty (.sl (.sl (.pair I (.pair I .unit))))], [((.sl (.sl (.pair I (.pair I .unit)))), 2)], fun x => ref04_CopyMatrix x⟩
def j_ref04_CopyMatrix : TH := mkTH [([], 20, .block 0, { lv := [⟨none, 3, 0⟩], ps := [((.sl (.sl (.pair I (.pair I .unit)))), 2)], D := ⟨524280⟩ }),
  ([], 20, .loop 0, { lv := [⟨none, 3, 0⟩, ⟨none, 4, 0⟩], ps := [((.sl (.sl (.pair I (.pair I .unit)))), 2), (I, 0)], D := ⟨524280⟩ })] []
theorem k_ref04_CopyMatrix (x : denP e_ref04_CopyMatrix.ps) : fnT Try.prog Hn.hints j_ref04_CopyMatrix (tabT [e_base_CopyGausses]) 40 20 (ofPms e_ref04_CopyMatrix.ps x) e_ref04_CopyMatrix.rs = e_ref04_CopyMatrix.F x := by kernel_rfl
theorem o_ref04_CopyMatrix : EntryOk Try.prog Hn.hints Lb e_ref04_CopyMatrix := entry_ok (tab_cons o_base_CopyGausses tab_nil) hJ 40 _ _ _ _ k_ref04_CopyMatrix
/-- (ductility/drive.whole).isSized -/
def drive_whole_isSized (a0 : (Int × Int × Unit)) (a1 : Int) : Option Bool :=
  ((drive_isSized a0.1 a1).bind fun x1 =>
    bif x1 then
      (drive_isSized a0.2.1 a1).bind fun x2 =>
      some x2
    else
      some false).bind fun (p3 : Bool) =>
  some p3
def e_drive_whole_isSized : Entry := ⟨53, [.ty (.pair I (.pair I .unit)), .ty I], [(.bool, 0)], fun x => drive_whole_isSized x.1 x.2⟩
def j_drive_whole_isSized : TH := mkTH [([], 53, .region 1, { lv := [⟨none, 4, 0⟩], ps := [(.bool, 0)], D := ⟨32752⟩, rs := [⟨0, 2⟩] })] []
theorem k_drive_whole_isSized (x : denP e_drive_whole_isSized.ps) : fnT Try.prog Hn.hints j_drive_whole_isSized (tabT [e_drive_isSized]) 40 53 (ofPms e_drive_whole_isSized.ps x) e_drive_whole_isSized.rs = e_drive_whole_isSized.F x := by kernel_rfl
theorem o_drive_whole_isSized : EntryOk Try.prog Hn.hints Lb e_drive_whole_isSized := entry_ok (tab_cons o_drive_isSized tab_nil) hJ 40 _ _ _ _ k_drive_whole_isSized
/-- ductility/drive.CheckMatrix$1 -/
def drive_CheckMatrix_1 (a0 : (Int × Int × Unit)) : Option Bool :=
  (drive_whole_isSized a0 (20 : Int)).bind fun x1 =>
  some (!x1)
def e_drive_CheckMatrix_1 : Entry := ⟨52, [.ty (.pair I (.pair I .unit))], [(.bool, 0)], fun x => drive_CheckMatrix_1 x⟩
def j_drive_CheckMatrix_1 : TH := mkTH [] []
theorem k_drive_CheckMatrix_1 (x : denP e_drive_CheckMatrix_1.ps) : fnT Try.prog Hn.hints j_drive_CheckMatrix_1 (tabT [e_drive_whole_isSized]) 40 52 (ofPms e_drive_CheckMatrix_1.ps x) e_drive_CheckMatrix_1.rs = e_drive_CheckMatrix_1.F x := by kernel_rfl
theorem o_drive_CheckMatrix_1 : EntryOk Try.prog Hn.hints Lb e_drive_CheckMatrix_1 := entry_ok (tab_cons o_drive_whole_isSized tab_nil) hJ 40 _ _ _ _ k_drive_CheckMatrix_1
/-- slices.IndexFunc[[]ductility/api.Gauss,ductility/api.Gauss] -/
def slices_IndexFunc_Lapi_Gauss_api_Gauss_of_drive_CheckMatrix_1 (a0 : (List (Int × Int × Unit))) : Option Int :=
  (loopO (fun (s2 : Int) =>
      bif decide (s2 < (a0.length : Int)) then
        (idx a0 s2).bind fun x3 =>
        (drive_CheckMatrix_1 x3).bind fun x4 =>
        bif x4 then
          some (.inr (.inr s2))
        else
          some (.inl (w64 (s2 + 1)))
      else
        some (.inr (.inl ()))) 0).bind (Sum.elim (fun (p5 : Unit) =>
  some (-1)) some)
def e_slices_IndexFunc_Lapi_Gauss_api_Gauss_of_drive_CheckMatrix_1 : Entry := ⟨87, [.ty (.sl (.pair I (.pair I .unit))), .fn 52 []], [(I, 0)], fun x => slices_IndexFunc_Lapi_Gauss_api_Gauss_of_drive_CheckMatrix_1 x.1⟩
def j_slices_IndexFunc_Lapi_Gauss_api_Gauss_of_drive_CheckMatrix_1 : TH := mkTH [([], 87, .block 0, { lv := [], ps := [], abn := true, D := ⟨524080⟩ }),
  ([], 87, .loop 0, { lv := [⟨none, 8, 0⟩], ps := [(I, 0)], D := ⟨524080⟩ })] []
theorem k_slices_IndexFunc_Lapi_Gauss_api_Gauss_of_drive_CheckMatrix_1 (x : denP e_slices_IndexFunc_Lapi_Gauss_api_Gauss_of_drive_CheckMatrix_1.ps) : fnT Try.prog Hn.hints j_slices_IndexFunc_Lapi_Gauss_api_Gauss_of_drive_CheckMatrix_1 (tabT [e_drive_CheckMatrix_1]) 40 87 (ofPms e_slices_IndexFunc_Lapi_Gauss_api_Gauss_of_drive_CheckMatrix_1.ps x) e_slices_IndexFunc_Lapi_Gauss_api_Gauss_of_drive_CheckMatrix_1.rs = e_slices_IndexFunc_Lapi_Gauss_api_Gauss_of_drive_CheckMatrix_1.F x := by kernel_rfl
theorem o_slices_IndexFunc_Lapi_Gauss_api_Gauss_of_drive_CheckMatrix_1 : EntryOk Try.prog Hn.hints Lb e_slices_IndexFunc_Lapi_Gauss_api_Gauss_of_drive_CheckMatrix_1 := entry_ok (tab_cons o_drive_CheckMatrix_1 tab_nil) hJ 40 _ _ _ _ k_slices_IndexFunc_Lapi_Gauss_api_Gauss_of_drive_CheckMatrix_1
/-- slices.ContainsFunc[[]ductility/api.Gauss,ductility/api.Gauss] -/
def slices_ContainsFunc_Lapi_Gauss_api_Gauss_of_drive_CheckMatrix_1 (a0 : (List (Int × Int × Unit))) : Option Bool :=
  (slices_IndexFunc_Lapi_Gauss_api_Gauss_of_drive_CheckMatrix_1 a0).bind fun x1 =>
  some (decide (x1 ≥ 0))
def e_slices_ContainsFunc_Lapi_Gauss_api_Gauss_of_drive_CheckMatrix_1 : Entry := ⟨51, [.ty (.sl (.pair I (.pair I .unit))), .fn 52 []], [(.bool, 0)], fun x => slices_ContainsFunc_Lapi_Gauss_api_Gauss_of_drive_CheckMatrix_1 x.1⟩
def j_slices_ContainsFunc_Lapi_Gauss_api_Gauss_of_drive_CheckMatrix_1 : TH := mkTH [] []
theorem k_slices_ContainsFunc_Lapi_Gauss_api_Gauss_of_drive_CheckMatrix_1 (x : denP e_slices_ContainsFunc_Lapi_Gauss_api_Gauss_of_drive_CheckMatrix_1.ps) : fnT Try.prog Hn.hints j_slices_ContainsFunc_Lapi_Gauss_api_Gauss_of_drive_CheckMatrix_1 (tabT [e_slices_IndexFunc_Lapi_Gauss_api_Gauss_of_drive_CheckMatrix_1]) 40 51 (ofPms e_slices_ContainsFunc_Lapi_Gauss_api_Gauss_of_drive_CheckMatrix_1.ps x) e_slices_ContainsFunc_Lapi_Gauss_api_Gauss_of_drive_CheckMatrix_1.rs = e_slices_ContainsFunc_Lapi_Gauss_api_Gauss_of_drive_CheckMatrix_1.F x := by kernel_rfl
theorem o_slices_ContainsFunc_Lapi_Gauss_api_Gauss_of_drive_CheckMatrix_1 : EntryOk Try.prog Hn.hints Lb e_slices_ContainsFunc_Lapi_Gauss_api_Gauss_of_drive_CheckMatrix_1 := entry_ok (tab_cons o_slices_IndexFunc_Lapi_Gauss_api_Gauss_of_drive_CheckMatrix_1 tab_nil) hJ 40 _ _ _ _ k_slices_ContainsFunc_Lapi_Gauss_api_Gauss_of_drive_CheckMatrix_1
/-- ductility/drive.CheckMatrix -/
def drive_CheckMatrix (a0 : (List (List (Int × Int × Unit)))) : Option (Int × Int) :=
  (drive_unless (decide ((a0.length : Int) > 0)) (10 : Int)).bind fun x1 =>
  (drive_unless (decide ((a0.length : Int) ≤ 3)) (8 : Int)).bind fun x2 =>
  (drive_first ([x1, x2])).bind fun x3 =>
  bif !(decide (x3 = 0)) then
    some (0, x3)
  else
    (loopO (fun (s5 : Int) =>
        bif decide (s5 < (a0.length : Int)) then
          (idx a0 s5).bind fun x6 =>
          (slices_ContainsFunc_Lapi_Gauss_api_Gauss_of_drive_CheckMatrix_1 x6).bind fun x7 =>
          (drive_unless (decide ((x6.length : Int) = (a0.length : Int))) (10 : Int)).bind fun x8 =>
          (drive_unless (!x7) (2 : Int)).bind fun x9 =>
          (drive_first ([x8, x9])).bind fun x10 =>
          bif !(decide (x10 = 0)) then
            some (.inr (.inr (s5, x10)))
          else
            some (.inl (w64 (s5 + 1)))
        else
          some (.inr (.inl ()))) 0).bind (Sum.elim (fun (p11 : Unit) =>
    some (0, 0)) some)
def e_drive_CheckMatrix : Entry := ⟨19, [.ty (.sl (.sl (.pair I (.pair I .unit))))], [(I, 0), (I, 0)], fun x => drive_CheckMatrix x⟩
def j_drive_CheckMatrix : TH := mkTH [([], 19, .block 0, { lv := [], ps := [], abn := true, D := ⟨140737471578604⟩ }),
  ([], 19, .loop 0, { lv := [⟨none, 24, 0⟩], ps := [(I, 0)], D := ⟨140737471578604⟩ })] []
theorem k_drive_CheckMatrix (x : denP e_drive_CheckMatrix.ps) : fnT Try.prog Hn.hints j_drive_CheckMatrix (tabT [e_drive_first, e_drive_unless, e_slices_ContainsFunc_Lapi_Gauss_api_Gauss_of_drive_CheckMatrix_1]) 40 19 (ofPms e_drive_CheckMatrix.ps x) e_drive_CheckMatrix.rs = e_drive_CheckMatrix.F x := by kernel_rfl
theorem o_drive_CheckMatrix : EntryOk Try.prog Hn.hints Lb e_drive_CheckMatrix := entry_ok (tab_cons o_drive_first (tab_cons o_drive_unless (tab_cons o_slices_ContainsFunc_Lapi_Gauss_api_Gauss_of_drive_CheckMatrix_1 tab_nil))) hJ 40 _ _ _ _ k_drive_CheckMatrix
/-- ductility/drive.matrixErr -/
def drive_matrixErr (a0 : (List (List (Int × Int × Unit)))) : Option Int :=
  (drive_CheckMatrix a0).bind fun x1 =>
  some x1.2
def e_drive_matrixErr : Entry := ⟨55, [.ty (.sl (.sl (.pair I (.pair I .unit))))], [(I, 0)], fun x => drive_matrixErr x⟩
def j_drive_matrixErr : TH := mkTH [] []
theorem k_drive_matrixErr (x : denP e_drive_matrixErr.ps) : fnT Try.prog Hn.hints j_drive_matrixErr (tabT [e_drive_CheckMatrix]) 40 55 (ofPms e_drive_matrixErr.ps x) e_drive_matrixErr.rs = e_drive_matrixErr.F x := by kernel_rfl
theorem o_drive_matrixErr : EntryOk Try.prog Hn.hints Lb e_drive_matrixErr := entry_ok (tab_cons o_drive_CheckMatrix tab_nil) hJ 40 _ _ _ _ k_drive_matrixErr
/-- (ductility/drive.matrix).at -/
def drive_matrix_at (a0 : (List (List (Int × Int × Unit)))) (a1 : Int) (a2 : Int) : Option (Int × Int × Unit) :=
  (idx a0 a1).bind fun x1 =>
  (idx x1 a2).bind fun x2 =>
  some x2
def e_drive_matrix_at : Entry := ⟨72, [.ty (.sl (.sl (.pair I (.pair I .unit)))), .ty I, .ty I], [((.pair I (.pair I .unit)), 0)], fun x => drive_matrix_at x.1 x.2.1 x.2.2⟩
def j_drive_matrix_at : TH := mkTH [] []
theorem k_drive_matrix_at (x : denP e_drive_matrix_at.ps) : fnT Try.prog Hn.hints j_drive_matrix_at (tabT []) 40 72 (ofPms e_drive_matrix_at.ps x) e_drive_matrix_at.rs = e_drive_matrix_at.F x := by kernel_rfl
theorem o_drive_matrix_at : EntryOk Try.prog Hn.hints Lb e_drive_matrix_at := entry_ok tab_nil hJ 40 _ _ _ _ k_drive_matrix_at
/-- (ductility/drive.whole).times -/
def drive_whole_times (a0 : (Int × Int × Unit)) (a1 : (Int × Int × Unit)) : Option (Int × Int × Unit) :=
  some (w64 ((w64 (a0.1 * a1.1)) - (w64 (a0.2.1 * a1.2.1))), w64 ((w64 (a0.1 * a1.2.1)) + (w64 (a0.2.1 * a1.1))), ())
def e_drive_whole_times : Entry := ⟨68, [.ty (.pair I (.pair I .unit)), .ty (.pair I (.pair I .unit))], [((.pair I (.pair I .unit)), 0)], fun x => drive_whole_times x.1 x.2⟩
def j_drive_whole_times : TH := mkTH [] []
theorem k_drive_whole_times (x : denP e_drive_whole_times.ps) : fnT Try.prog Hn.hints j_drive_whole_times (tabT []) 40 68 (ofPms e_drive_whole_times.ps x) e_drive_whole_times.rs = e_drive_whole_times.F x := by kernel_rfl
theorem o_drive_whole_times : EntryOk Try.prog Hn.hints Lb e_drive_whole_times := entry_ok tab_nil hJ 40 _ _ _ _ k_drive_whole_times
/-- (ductility/drive.whole).plus -/
def drive_whole_plus (a0 : (Int × Int × Unit)) (a1 : (Int × Int × Unit)) : Option (Int × Int × Unit) :=
  some (w64 (a0.1 + a1.1), w64 (a0.2.1 + a1.2.1), ())
def e_drive_whole_plus : Entry := ⟨89, [.ty (.pair I (.pair I .unit)), .ty (.pair I (.pair I .unit))], [((.pair I (.pair I .unit)), 0)], fun x => drive_whole_plus x.1 x.2⟩
def j_drive_whole_plus : TH := mkTH [] []
theorem k_drive_whole_plus (x : denP e_drive_whole_plus.ps) : fnT Try.prog Hn.hints j_drive_whole_plus (tabT []) 40 89 (ofPms e_drive_whole_plus.ps x) e_drive_whole_plus.rs = e_drive_whole_plus.F x := by kernel_rfl
theorem o_drive_whole_plus : EntryOk Try.prog Hn.hints Lb e_drive_whole_plus := entry_ok tab_nil hJ 40 _ _ _ _ k_drive_whole_plus
/-- (ductility/drive.matrix).times$1 -/
def drive_matrix_times_1 (a0 : Int) (a1 : Int) (a2 : (List (List (Int × Int × Unit)))) (a3 : (List (List (Int × Int × Unit)))) : Option (Int × Int × Unit) :=
  (loopO (fun (s2 : (Int × Int × Int)) =>
      bif decide (s2.1 < (a2.length : Int)) then
        (drive_matrix_at a3 a0 s2.1).bind fun x3 =>
        (drive_matrix_at a2 s2.1 a1).bind fun x4 =>
        (drive_whole_times x3 x4).bind fun x5 =>
        (drive_whole_plus (s2.2.1, s2.2.2, ()) x5).bind fun x6 =>
        some (.inl (w64 (s2.1 + 1), x6.1, x6.2.1))
      else
        some (.inr (s2.2.1, s2.2.2))) (0, 0, 0)).bind fun (p7 : (Int × Int)) =>
  some (p7.1, p7.2, ())
def e_drive_matrix_times_1 : Entry := ⟨88, [.ty I, .ty I, .ptr (.sl (.sl (.pair I (.pair I .unit)))), .ptr (.sl (.sl (.pair I (.pair I .unit))))], [((.pair I (.pair I .unit)), 0)], fun x => drive_matrix_times_1 x.1 x.2.1 x.2.2.1 x.2.2.2⟩
def j_drive_matrix_times_1 : TH := mkTH [([], 88, .block 0, { lv := [⟨some 0, 7, 0⟩, ⟨some 0, 7, 1⟩], ps := [(I, 0), (I, 0)], D := ⟨67107072⟩, wr := [⟨0, 7⟩] }),
  ([], 88, .loop 0, { lv := [⟨none, 11, 0⟩, ⟨some 0, 7, 0⟩, ⟨some 0, 7, 1⟩], ps := [(I, 0), (I, 0), (I, 0)], D := ⟨67107072⟩, wr := [⟨0, 7⟩] })] []
theorem k_drive_matrix_times_1 (x : denP e_drive_matrix_times_1.ps) : fnT Try.prog Hn.hints j_drive_matrix_times_1 (tabT [e_drive_matrix_at, e_drive_whole_plus, e_drive_whole_times]) 40 88 (ofPms e_drive_matrix_times_1.ps x) e_drive_matrix_times_1.rs = e_drive_matrix_times_1.F x := by kernel_rfl
theorem o_drive_matrix_times_1 : EntryOk Try.prog Hn.hints Lb e_drive_matrix_times_1 := entry_ok (tab_cons o_drive_matrix_at (tab_cons o_drive_whole_plus (tab_cons o_drive_whole_times tab_nil))) hJ 40 _ _ _ _ k_drive_matrix_times_1
/-- ductility/drive.made -/
def drive_made_of_drive_matrix_times_1 (a0 : Int) (a1 : Int) (a2 : (List (List (Int × Int × Unit)))) (a3 : (List (List (Int × Int × Unit)))) : Option (List (List (Int × Int × Unit))) :=
  (mkS ([] : (List (Int × Int × Unit))) a0).bind fun x1 =>
  bif decide (a0 = a0) then
    (loopO (fun (s3 : ((List (List (Int × Int × Unit))) × Int)) =>
        bif decide (s3.2 < (x1.length : Int)) then
          (loopO (fun (s5 : ((List (List (Int × Int × Unit))) × Int)) =>
              bif decide (s5.2 < a1) then
                (idx s5.1 s3.2).bind fun x6 =>
                (drive_matrix_times_1 s3.2 s5.2 a2 a3).bind fun x7 =>
                (idx s5.1 s3.2).bind fun x8 =>
                (app x8 ([x7])).bind fun x9 =>
                (idx s5.1 s3.2).bind fun x10 =>
                bif decide (s3.2 = s3.2) then
                  let l11 : (List (List (Int × Int × Unit))) := List.set s5.1 s3.2.toNat x9
                  some (.inl (l11, w64 (s5.2 + 1)))
                else
                  none
              else
                some (.inr s5.1)) (s3.1, 0)).bind fun (p12 : (List (List (Int × Int × Unit)))) =>
          some (.inl (p12, w64 (s3.2 + 1)))
        else
          some (.inr s3.1)) (x1, 0)).bind fun (p13 : (List (List (Int × Int × Unit)))) =>
    some p13
  else
    none
def e_drive_made_of_drive_matrix_times_1 : Entry := ⟨70, [.ty I, .ty I, .fn 88 [.p (.sl (.sl (.pair I (.pair I .unit)))), .p (.sl (.sl (.pair I (.pair I .unit))))]], [((.sl (.sl (.pair I (.pair I .unit)))), 2)], fun x => drive_made_of_drive_matrix_times_1 x.1 x.2.1 x.2.2.1 x.2.2.2⟩
def j_drive_made_of_drive_matrix_times_1 : TH := mkTH [([], 70, .block 0, { lv := [⟨none, 7, 0⟩], ps := [((.sl (.sl (.pair I (.pair I .unit)))), 2)], D := ⟨68719467392⟩ }),
  ([], 70, .loop 0, { lv := [⟨none, 7, 0⟩, ⟨none, 14, 0⟩], ps := [((.sl (.sl (.pair I (.pair I .unit)))), 2), (I, 0)], D := ⟨68719467392⟩ }),
  ([], 70, .block 2, { lv := [⟨none, 7, 0⟩], ps := [((.sl (.sl (.pair I (.pair I .unit)))), 2)], D := ⟨34359476864⟩ }),
  ([], 70, .loop 2, { lv := [⟨none, 7, 0⟩, ⟨none, 18, 0⟩], ps := [((.sl (.sl (.pair I (.pair I .unit)))), 2), (I, 0)], D := ⟨34359476864⟩ })] []
theorem k_drive_made_of_drive_matrix_times_1 (x : denP e_drive_made_of_drive_matrix_times_1.ps) : fnT Try.prog Hn.hints j_drive_made_of_drive_matrix_times_1 (tabT [e_drive_matrix_times_1]) 40 70 (ofPms e_drive_made_of_drive_matrix_times_1.ps x) e_drive_made_of_drive_matrix_times_1.rs = e_drive_made_of_drive_matrix_times_1.F x := by kernel_rfl
theorem o_drive_made_of_drive_matrix_times_1 : EntryOk Try.prog Hn.hints Lb e_drive_made_of_drive_matrix_times_1 := entry_ok (tab_cons o_drive_matrix_times_1 tab_nil) hJ 40 _ _ _ _ k_drive_made_of_drive_matrix_times_1
/-- (ductility/drive.matrix).times -/
def drive_matrix_times (a0 : (List (List (Int × Int × Unit)))) (a1 : (List (List (Int × Int × Unit)))) : Option (List (List (Int × Int × Unit))) :=
  (idx a1 0).bind fun x1 =>
  (drive_made_of_drive_matrix_times_1 (a0.length : Int) (x1.length : Int) a1 a0).bind fun x2 =>
  some x2
def e_drive_matrix_times : Entry := ⟨56, [.ty (.sl (.sl (.pair I (.pair I .unit)))), .ty (.sl (.sl (.pair I (.pair I .unit))))], [((.sl (.sl (.pair I (.pair I .unit)))), 2)], fun x => drive_matrix_times x.1 x.2⟩
def j_drive_matrix_times : TH := mkTH [] []
theorem k_drive_matrix_times (x : denP e_drive_matrix_times.ps) : fnT Try.prog Hn.hints j_drive_matrix_times (tabT [e_drive_made_of_drive_matrix_times_1]) 40 56 (ofPms e_drive_matrix_times.ps x) e_drive_matrix_times.rs = e_drive_matrix_times.F x := by kernel_rfl
theorem o_drive_matrix_times : EntryOk Try.prog Hn.hints Lb e_drive_matrix_times := entry_ok (tab_cons o_drive_made_of_drive_matrix_times_1 tab_nil) hJ 40 _ _ _ _ k_drive_matrix_times
/-- ductility/drive.ProductOf -/
def drive_ProductOf (a0 : (List (List (Int × Int × Unit)))) (a1 : (List (List (Int × Int × Unit)))) : Option ((List (List (Int × Int × Unit))) × Int) :=
  (drive_matrixErr a0).bind fun x1 =>
  (drive_matrixErr a1).bind fun x2 =>
  (drive_unless (decide ((a0.length : Int) = (a1.length : Int))) (13 : Int)).bind fun x3 =>
  (drive_first ([x1, x2, x3])).bind fun x4 =>
  bif !(decide (x4 = 0)) then
    some ([], x4)
  else
    (drive_matrix_times a0 a1).bind fun x5 =>
    some (x5, 0)
def e_drive_ProductOf : Entry := ⟨21, [.ty (.sl (.sl (.pair I (.pair I .unit)))), .ty (.sl (.sl (.pair I (.pair I .unit))))], [((.sl (.sl (.pair I (.pair I .unit)))), 2), (I, 0)], fun x => drive_ProductOf x.1 x.2⟩
def j_drive_ProductOf : TH := mkTH [] []
theorem k_drive_ProductOf (x : denP e_drive_ProductOf.ps) : fnT Try.prog Hn.hints j_drive_ProductOf (tabT [e_drive_first, e_drive_matrixErr, e_drive_matrix_times, e_drive_unless]) 40 21 (ofPms e_drive_ProductOf.ps x) e_drive_ProductOf.rs = e_drive_ProductOf.F x := by kernel_rfl
theorem o_drive_ProductOf : EntryOk Try.prog Hn.hints Lb e_drive_ProductOf := entry_ok (tab_cons o_drive_first (tab_cons o_drive_matrixErr (tab_cons o_drive_matrix_times (tab_cons o_drive_unless tab_nil)))) hJ 40 _ _ _ _ k_drive_ProductOf
/-- (ductility/drive.matrix).without -/
def drive_matrix_without (a0 : (List (List (Int × Int × Unit)))) (a1 : Int) (a2 : Int) : Option (List (List (Int × Int × Unit))) :=
  (loopO (fun (s2 : ((List (List (Int × Int × Unit))) × Int)) =>
      bif decide (s2.2 < (a0.length : Int)) then
        (idx a0 s2.2).bind fun x3 =>
        (bif !(decide (s2.2 = a1)) then
            (slc x3 0 a2).bind fun x4 =>
            bif decide (a2 = a2) then
              (slc x3 (w64 (a2 + 1)) (x3.length : Int)).bind fun x5 =>
              (app x4 x5).bind fun x6 =>
              (app s2.1 ([x6])).bind fun x7 =>
              some x7
            else
              none
          else
            some s2.1).bind fun (p8 : (List (List (Int × Int × Unit)))) =>
        some (.inl (p8, w64 (s2.2 + 1)))
      else
        some (.inr s2.1)) ([], 0)).bind fun (p9 : (List (List (Int × Int × Unit)))) =>
  some p9
def e_drive_matrix_without : Entry := ⟨90, [.ty (.sl (.sl (.pair I (.pair I .unit)))), .ty I, .ty I], [((.sl (.sl (.pair I (.pair I .unit)))), 2001)], fun x => drive_matrix_without x.1 x.2.1 x.2.2⟩
def j_drive_matrix_without : TH := mkTH [([], 90, .block 0, { lv := [⟨none, 7, 0⟩], ps := [((.sl (.sl (.pair I (.pair I .unit)))), 2001)], D := ⟨8589931392⟩ }),
  ([], 90, .loop 0, { lv := [⟨none, 7, 0⟩, ⟨none, 12, 0⟩], ps := [((.sl (.sl (.pair I (.pair I .unit)))), 2001), (I, 0)], D := ⟨8589931392⟩ }),
  ([], 90, .cond 19, { lv := [⟨none, 7, 0⟩], ps := [((.sl (.sl (.pair I (.pair I .unit)))), 2001)], D := ⟨4293918848⟩ })] []
theorem k_drive_matrix_without (x : denP e_drive_matrix_without.ps) : fnT Try.prog Hn.hints j_drive_matrix_without (tabT []) 40 90 (ofPms e_drive_matrix_without.ps x) e_drive_matrix_without.rs = e_drive_matrix_without.F x := by kernel_rfl
theorem o_drive_matrix_without : EntryOk Try.prog Hn.hints Lb e_drive_matrix_without := entry_ok tab_nil hJ 40 _ _ _ _ k_drive_matrix_without
/-- (ductility/drive.whole).minus -/
def drive_whole_minus (a0 : (Int × Int × Unit)) (a1 : (Int × Int × Unit)) : Option (Int × Int × Unit) :=
  some (w64 (a0.1 - a1.1), w64 (a0.2.1 - a1.2.1), ())
def e_drive_whole_minus : Entry := ⟨80, [.ty (.pair I (.pair I .unit)), .ty (.pair I (.pair I .unit))], [((.pair I (.pair I .unit)), 0)], fun x => drive_whole_minus x.1 x.2⟩
def j_drive_whole_minus : TH := mkTH [] []
theorem k_drive_whole_minus (x : denP e_drive_whole_minus.ps) : fnT Try.prog Hn.hints j_drive_whole_minus (tabT []) 40 80 (ofPms e_drive_whole_minus.ps x) e_drive_whole_minus.rs = e_drive_whole_minus.F x := by kernel_rfl
theorem o_drive_whole_minus : EntryOk Try.prog Hn.hints Lb e_drive_whole_minus := entry_ok tab_nil hJ 40 _ _ _ _ k_drive_whole_minus
/-- (ductility/drive.matrix).determinant (so many calls deep) -/
def drive_matrix_determinant_n (n : Nat) : (List (List (Int × Int × Unit))) → Option (Int × Int × Unit) :=
  Nat.rec (motive := fun _ => (List (List (Int × Int × Unit))) → Option (Int × Int × Unit)) (fun _ => none) (fun _ ih a0 =>
  bif decide ((a0.length : Int) = 0) then
    some (1, 0, ())
  else
    (loopO (fun (s2 : (Int × Int × Int)) =>
        bif decide (s2.1 < (a0.length : Int)) then
          (drive_matrix_at a0 (0 : Int) s2.1).bind fun x3 =>
          (drive_matrix_without a0 (0 : Int) s2.1).bind fun x4 =>
          (ih x4).bind fun x5 =>
          (drive_whole_times x3 x5).bind fun x6 =>
          (bif decide (s2.1.tmod 2 = 1) then
              (drive_whole_minus (0, 0, ()) x6).bind fun x7 =>
              some (x7.1, x7.2.1)
            else
              some (x6.1, x6.2.1)).bind fun (p8 : (Int × Int)) =>
          (drive_whole_plus (s2.2.1, s2.2.2, ()) (p8.1, p8.2, ())).bind fun x9 =>
          some (.inl (w64 (s2.1 + 1), x9.1, x9.2.1))
        else
          some (.inr (s2.2.1, s2.2.2))) (0, 0, 0)).bind fun (p10 : (Int × Int)) =>
    some (p10.1, p10.2, ())) n
def drive_matrix_determinant : (List (List (Int × Int × Unit))) → Option (Int × Int × Unit) := drive_matrix_determinant_n 12
def e_drive_matrix_determinant : Entry := ⟨57, [.ty (.sl (.sl (.pair I (.pair I .unit))))], [((.pair I (.pair I .unit)), 0)], fun x => drive_matrix_determinant x⟩
def j_drive_matrix_determinant : TH := mkTH [([], 57, .block 0, { lv := [⟨some 0, 3, 0⟩, ⟨some 0, 3, 1⟩], ps := [(I, 0), (I, 0)], D := ⟨8589930544⟩, wr := [⟨0, 3⟩, ⟨0, 5⟩] }),
  ([], 57, .loop 0, { lv := [⟨none, 12, 0⟩, ⟨some 0, 3, 0⟩, ⟨some 0, 3, 1⟩], ps := [(I, 0), (I, 0), (I, 0)], D := ⟨8589930544⟩, wr := [⟨0, 3⟩, ⟨0, 5⟩], rs := [⟨0, 5⟩] }),
  ([], 57, .cond 25, { lv := [⟨some 0, 5, 0⟩, ⟨some 0, 5, 1⟩], ps := [(I, 0), (I, 0)], D := ⟨469762048⟩, wr := [⟨0, 5⟩] })] []
def e_drive_matrix_determinant_n (n : Nat) : Entry := ⟨57, [.ty (.sl (.sl (.pair I (.pair I .unit))))], [((.pair I (.pair I .unit)), 0)], fun x => drive_matrix_determinant_n n x⟩
theorem k_drive_matrix_determinant (n : Nat) (x : denP (e_drive_matrix_determinant_n (n + 1)).ps) : fnT Try.prog Hn.hints j_drive_matrix_determinant (tabT [(e_drive_matrix_determinant_n n), e_drive_matrix_at, e_drive_matrix_without, e_drive_whole_minus, e_drive_whole_plus, e_drive_whole_times]) 40 57 (ofPms (e_drive_matrix_determinant_n (n + 1)).ps x) (e_drive_matrix_determinant_n (n + 1)).rs = (e_drive_matrix_determinant_n (n + 1)).F x := by kernel_rfl
theorem o_drive_matrix_determinant_n : ∀ n, EntryOk Try.prog Hn.hints Lb (e_drive_matrix_determinant_n n)
  | 0 => fun x y h => by cases (show none = some y from h)
  | n + 1 => entry_ok (tab_cons (o_drive_matrix_determinant_n n) (tab_cons o_drive_matrix_at (tab_cons o_drive_matrix_without (tab_cons o_drive_whole_minus (tab_cons o_drive_whole_plus (tab_cons o_drive_whole_times tab_nil)))))) hJ 40 _ _ _ _ (k_drive_matrix_determinant n)
theorem o_drive_matrix_determinant : EntryOk Try.prog Hn.hints Lb e_drive_matrix_determinant := o_drive_matrix_determinant_n 12
/-- ductility/drive.DeterminantOf -/
def drive_DeterminantOf (a0 : (List (List (Int × Int × Unit)))) : Option ((Int × Int × Unit) × Int) :=
  (drive_matrixErr a0).bind fun x1 =>
  bif !(decide (x1 = 0)) then
    some ((0, 0, ()), x1)
  else
    (drive_matrix_determinant a0).bind fun x2 =>
    some (x2, 0)
def e_drive_DeterminantOf : Entry := ⟨22, [.ty (.sl (.sl (.pair I (.pair I .unit))))], [((.pair I (.pair I .unit)), 0), (I, 0)], fun x => drive_DeterminantOf x⟩
def j_drive_DeterminantOf : TH := mkTH [] []
theorem k_drive_DeterminantOf (x : denP e_drive_DeterminantOf.ps) : fnT Try.prog Hn.hints j_drive_DeterminantOf (tabT [e_drive_matrixErr, e_drive_matrix_determinant]) 40 22 (ofPms e_drive_DeterminantOf.ps x) e_drive_DeterminantOf.rs = e_drive_DeterminantOf.F x := by kernel_rfl
theorem o_drive_DeterminantOf : EntryOk Try.prog Hn.hints Lb e_drive_DeterminantOf := entry_ok (tab_cons o_drive_matrixErr (tab_cons o_drive_matrix_determinant tab_nil)) hJ 40 _ _ _ _ k_drive_DeterminantOf
/-- ductility/ductilityref04.isSized -/
def ref04_isSized (a0 : (Int × Int × Unit)) (a1 : Int) : Option Bool :=
  ((base_Within a0.1 (w64 (0 - a1)) a1).bind fun x1 =>
    bif x1 then
      (base_Within a0.2.1 (w64 (0 - a1)) a1).bind fun x2 =>
      some x2
    else
      some false).bind fun (p3 : Bool) =>
  some p3
def e_ref04_isSized : Entry := ⟨58, [.ty (.pair I (.pair I .unit)), .ty I], [(.bool, 0)], fun x => ref04_isSized x.1 x.2⟩
def j_ref04_isSized : TH := mkTH [([], 58, .region 1, { lv := [⟨none, 4, 0⟩], ps := [(.bool, 0)], D := ⟨524272⟩, rs := [⟨0, 2⟩] })] []
theorem k_ref04_isSized (x : denP e_ref04_isSized.ps) : fnT Try.prog Hn.hints j_ref04_isSized (tabT [e_base_Within]) 40 58 (ofPms e_ref04_isSized.ps x) e_ref04_isSized.rs = e_ref04_isSized.F x := by kernel_rfl
theorem o_ref04_isSized : EntryOk Try.prog Hn.hints Lb e_ref04_isSized := entry_ok (tab_cons o_base_Within tab_nil) hJ 40 _ _ _ _ k_ref04_isSized
/-- ductility/ductilityref04.CheckMatrix -/
def ref04_CheckMatrix (a0 : (List (List (Int × Int × Unit)))) : Option (Int × Int) :=
  bif decide ((a0.length : Int) = 0) then
    some (0, 10)
  else
    bif decide ((a0.length : Int) > 3) then
      some (0, 8)
    else
      (loopO (fun (s2 : Int) =>
          bif decide (s2 < (a0.length : Int)) then
            (idx a0 s2).bind fun x3 =>
            bif !(decide ((x3.length : Int) = (a0.length : Int))) then
              some (.inr (.inr (s2, 10)))
            else
              (loopO (fun (s5 : Int) =>
                  (idx a0 s2).bind fun x6 =>
                  bif decide (s5 < (x6.length : Int)) then
                    (idx a0 s2).bind fun x7 =>
                    (idx x7 s5).bind fun x8 =>
                    (ref04_isSized x8 (20 : Int)).bind fun x9 =>
                    bif !x9 then
                      some (.inr (.inr (.inr (.inr (s2, 2)))))
                    else
                      some (.inl (w64 (s5 + 1)))
                  else
                    some (.inr (.inl ()))) 0).bind (Sum.elim (fun (p10 : Unit) =>
              some (.inl (w64 (s2 + 1)))) some)
          else
            some (.inr (.inl ()))) 0).bind (Sum.elim (fun (p11 : Unit) =>
      some (0, 0)) some)
def e_ref04_CheckMatrix : Entry := ⟨23, [.ty (.sl (.sl (.pair I (.pair I .unit))))], [(I, 0), (I, 0)], fun x => ref04_CheckMatrix x⟩
def j_ref04_CheckMatrix : TH := mkTH [([], 23, .block 0, { lv := [], ps := [], abn := true, D := ⟨70368744173628⟩ }),
  ([], 23, .loop 0, { lv := [⟨none, 4, 0⟩], ps := [(I, 0)], D := ⟨70368744173628⟩ }),
  ([], 23, .block 2, { lv := [], ps := [], abn := true, D := ⟨70368609959980⟩ }),
  ([], 23, .loop 2, { lv := [⟨none, 5, 0⟩], ps := [(I, 0)], D := ⟨70368609959980⟩ })] []
theorem k_ref04_CheckMatrix (x : denP e_ref04_CheckMatrix.ps) : fnT Try.prog Hn.hints j_ref04_CheckMatrix (tabT [e_ref04_isSized]) 40 23 (ofPms e_ref04_CheckMatrix.ps x) e_ref04_CheckMatrix.rs = e_ref04_CheckMatrix.F x := by kernel_rfl
theorem o_ref04_CheckMatrix : EntryOk Try.prog Hn.hints Lb e_ref04_CheckMatrix := entry_ok (tab_cons o_ref04_isSized tab_nil) hJ 40 _ _ _ _ k_ref04_CheckMatrix
/-- ductility/ductilityref04.without -/
def ref04_without (a0 : (List (List (Int × Int × Unit)))) (a1 : Int) (a2 : Int) : Option (List (List (Int × Int × Unit))) :=
  (loopO (fun (s2 : ((List (List (Int × Int × Unit))) × Int)) =>
      bif decide (s2.2 < (a0.length : Int)) then
        (bif decide (s2.2 = a1) then
            some s2.1
          else
            (loopO (fun (s4 : ((List (Int × Int × Unit)) × Int)) =>
                bif decide (s4.2 < (a0.length : Int)) then
                  (bif !(decide (s4.2 = a2)) then
                      (idx a0 s2.2).bind fun x5 =>
                      (idx x5 s4.2).bind fun x6 =>
                      (app s4.1 ([x6])).bind fun x7 =>
                      some x7
                    else
                      some s4.1).bind fun (p8 : (List (Int × Int × Unit))) =>
                  some (.inl (p8, w64 (s4.2 + 1)))
                else
                  some (.inr s4.1)) ([], 0)).bind fun (p9 : (List (Int × Int × Unit))) =>
            (app s2.1 ([p9])).bind fun x10 =>
            some x10).bind fun (p11 : (List (List (Int × Int × Unit)))) =>
        some (.inl (p11, w64 (s2.2 + 1)))
      else
        some (.inr s2.1)) ([], 0)).bind fun (p12 : (List (List (Int × Int × Unit)))) =>
  some p12
def e_ref04_without : Entry := ⟨59, [.ty (.sl (.sl (.pair I (.pair I .unit)))), .ty I, .ty I], [((.sl (.sl (.pair I (.pair I .unit)))), 2)], fun x => ref04_without x.1 x.2.1 x.2.2⟩
def j_ref04_without : TH := mkTH [([], 59, .block 0, { lv := [⟨none, 7, 0⟩], ps := [((.sl (.sl (.pair I (.pair I .unit)))), 2)], D := ⟨8796093022080⟩ }),
  ([], 59, .loop 0, { lv := [⟨none, 7, 0⟩, ⟨none, 8, 0⟩], ps := [((.sl (.sl (.pair I (.pair I .unit)))), 2), (I, 0)], D := ⟨8796093022080⟩ }),
  ([], 59, .block 1, { lv := [⟨none, 7, 0⟩], ps := [((.sl (.sl (.pair I (.pair I .unit)))), 2)], D := ⟨8796092892800⟩ }),
  ([], 59, .block 2, { lv := [⟨none, 9, 0⟩], ps := [((.sl (.pair I (.pair I .unit))), 1)], D := ⟨549754766848⟩ }),
  ([], 59, .loop 2, { lv := [⟨none, 9, 0⟩, ⟨none, 10, 0⟩], ps := [((.sl (.pair I (.pair I .unit))), 1), (I, 0)], D := ⟨549754766848⟩ }),
  ([], 59, .cond 28, { lv := [⟨none, 9, 0⟩], ps := [((.sl (.pair I (.pair I .unit))), 1)], D := ⟨549218943488⟩ })] []
theorem k_ref04_without (x : denP e_ref04_without.ps) : fnT Try.prog Hn.hints j_ref04_without (tabT []) 40 59 (ofPms e_ref04_without.ps x) e_ref04_without.rs = e_ref04_without.F x := by kernel_rfl
theorem o_ref04_without : EntryOk Try.prog Hn.hints Lb e_ref04_without := entry_ok tab_nil hJ 40 _ _ _ _ k_ref04_without
/-- ductility/ductilitybase.GMul -/
def base_GMul (a0 : (Int × Int × Unit)) (a1 : (Int × Int × Unit)) : Option (Int × Int × Unit) :=
  some (w64 ((w64 (a0.1 * a1.1)) - (w64 (a0.2.1 * a1.2.1))), w64 ((w64 (a0.1 * a1.2.1)) + (w64 (a0.2.1 * a1.1))), ())
def e_base_GMul : Entry := ⟨28, [.ty (.pair I (.pair I .unit)), .ty (.pair I (.pair I .unit))], [((.pair I (.pair I .unit)), 0)], fun x => base_GMul x.1 x.2⟩
def j_base_GMul : TH := mkTH [] []
theorem k_base_GMul (x : denP e_base_GMul.ps) : fnT Try.prog Hn.hints j_base_GMul (tabT []) 40 28 (ofPms e_base_GMul.ps x) e_base_GMul.rs = e_base_GMul.F x := by kernel_rfl
theorem o_base_GMul : EntryOk Try.prog Hn.hints Lb e_base_GMul := entry_ok tab_nil hJ 40 _ _ _ _ k_base_GMul
/-- ductility/ductilitybase.GAdd -/
def base_GAdd (a0 : (Int × Int × Unit)) (a1 : (Int × Int × Unit)) : Option (Int × Int × Unit) :=
  some (w64 (a0.1 + a1.1), w64 (a0.2.1 + a1.2.1), ())
def e_base_GAdd : Entry := ⟨60, [.ty (.pair I (.pair I .unit)), .ty (.pair I (.pair I .unit))], [((.pair I (.pair I .unit)), 0)], fun x => base_GAdd x.1 x.2⟩
def j_base_GAdd : TH := mkTH [] []
theorem k_base_GAdd (x : denP e_base_GAdd.ps) : fnT Try.prog Hn.hints j_base_GAdd (tabT []) 40 60 (ofPms e_base_GAdd.ps x) e_base_GAdd.rs = e_base_GAdd.F x := by kernel_rfl
theorem o_base_GAdd : EntryOk Try.prog Hn.hints Lb e_base_GAdd := entry_ok tab_nil hJ 40 _ _ _ _ k_base_GAdd
/-- ductility/ductilitybase.GSub -/
def base_GSub (a0 : (Int × Int × Unit)) (a1 : (Int × Int × Unit)) : Option (Int × Int × Unit) :=
  some (w64 (a0.1 - a1.1), w64 (a0.2.1 - a1.2.1), ())
def e_base_GSub : Entry := ⟨61, [.ty (.pair I (.pair I .unit)), .ty (.pair I (.pair I .unit))], [((.pair I (.pair I .unit)), 0)], fun x => base_GSub x.1 x.2⟩
def j_base_GSub : TH := mkTH [] []
theorem k_base_GSub (x : denP e_base_GSub.ps) : fnT Try.prog Hn.hints j_base_GSub (tabT []) 40 61 (ofPms e_base_GSub.ps x) e_base_GSub.rs = e_base_GSub.F x := by kernel_rfl
theorem o_base_GSub : EntryOk Try.prog Hn.hints Lb e_base_GSub := entry_ok tab_nil hJ 40 _ _ _ _ k_base_GSub
/-- ductility/ductilityref04.Determinant (so many calls deep) -/
def ref04_Determinant_n (n : Nat) : (List (List (Int × Int × Unit))) → Option (Int × Int × Unit) :=
  Nat.rec (motive := fun _ => (List (List (Int × Int × Unit))) → Option (Int × Int × Unit)) (fun _ => none) (fun _ ih a0 =>
  bif decide ((a0.length : Int) = 0) then
    some (1, 0, ())
  else
    (loopO (fun (s2 : (Int × Int × Int)) =>
        bif decide (s2.1 < (a0.length : Int)) then
          (idx a0 0).bind fun x3 =>
          (idx x3 s2.1).bind fun x4 =>
          (ref04_without a0 (0 : Int) s2.1).bind fun x5 =>
          (ih x5).bind fun x6 =>
          (base_GMul x4 x6).bind fun x7 =>
          (base_Mod s2.1 (2 : Int)).bind fun x8 =>
          (bif decide (x8 = 0) then
              (base_GAdd (s2.2.1, s2.2.2, ()) x7).bind fun x9 =>
              some (x9.1, x9.2.1)
            else
              (base_GSub (s2.2.1, s2.2.2, ()) x7).bind fun x10 =>
              some (x10.1, x10.2.1)).bind fun (p11 : (Int × Int)) =>
          some (.inl (w64 (s2.1 + 1), p11.1, p11.2))
        else
          some (.inr (s2.2.1, s2.2.2))) (0, 0, 0)).bind fun (p12 : (Int × Int)) =>
    some (p12.1, p12.2, ())) n
def ref04_Determinant : (List (List (Int × Int × Unit))) → Option (Int × Int × Unit) := ref04_Determinant_n 12
def e_ref04_Determinant : Entry := ⟨24, [.ty (.sl (.sl (.pair I (.pair I .unit))))], [((.pair I (.pair I .unit)), 0)], fun x => ref04_Determinant x⟩
def j_ref04_Determinant : TH := mkTH [([], 24, .block 0, { lv := [⟨some 0, 3, 0⟩, ⟨some 0, 3, 1⟩], ps := [(I, 0), (I, 0)], D := ⟨68719475760⟩, wr := [⟨0, 3⟩, ⟨0, 5⟩] }),
  ([], 24, .loop 0, { lv := [⟨none, 4, 0⟩, ⟨some 0, 3, 0⟩, ⟨some 0, 3, 1⟩], ps := [(I, 0), (I, 0), (I, 0)], D := ⟨68719475760⟩, wr := [⟨0, 3⟩, ⟨0, 5⟩], rs := [⟨0, 5⟩] }),
  ([], 24, .cond 29, { lv := [⟨some 0, 3, 0⟩, ⟨some 0, 3, 1⟩], ps := [(I, 0), (I, 0)], D := ⟨67645734912⟩, wr := [⟨0, 3⟩] })] []
def e_ref04_Determinant_n (n : Nat) : Entry := ⟨24, [.ty (.sl (.sl (.pair I (.pair I .unit))))], [((.pair I (.pair I .unit)), 0)], fun x => ref04_Determinant_n n x⟩
theorem k_ref04_Determinant (n : Nat) (x : denP (e_ref04_Determinant_n (n + 1)).ps) : fnT Try.prog Hn.hints j_ref04_Determinant (tabT [(e_ref04_Determinant_n n), e_base_GAdd, e_base_GMul, e_base_GSub, e_base_Mod, e_ref04_without]) 40 24 (ofPms (e_ref04_Determinant_n (n + 1)).ps x) (e_ref04_Determinant_n (n + 1)).rs = (e_ref04_Determinant_n (n + 1)).F x := by kernel_rfl
theorem o_ref04_Determinant_n : ∀ n, EntryOk Try.prog Hn.hints Lb (e_ref04_Determinant_n n)
  | 0 => fun x y h => by cases (show none = some y from h)
  | n + 1 => entry_ok (tab_cons (o_ref04_Determinant_n n) (tab_cons o_base_GAdd (tab_cons o_base_GMul (tab_cons o_base_GSub (tab_cons o_base_Mod (tab_cons o_ref04_without tab_nil)))))) hJ 40 _ _ _ _ (k_ref04_Determinant n)
theorem o_ref04_Determinant : EntryOk Try.prog Hn.hints Lb e_ref04_Determinant := o_ref04_Determinant_n 12
/-- ductility/ductilityref04.MatrixErr -/
def ref04_MatrixErr (a0 : (List (List (Int × Int × Unit)))) : Option Int :=
  (ref04_CheckMatrix a0).bind fun x1 =>
  some x1.2
def e_ref04_MatrixErr : Entry := ⟨25, [.ty (.sl (.sl (.pair I (.pair I .unit))))], [(I, 0)], fun x => ref04_MatrixErr x⟩
def j_ref04_MatrixErr : TH := mkTH [] []
theorem k_ref04_MatrixErr (x : denP e_ref04_MatrixErr.ps) : fnT Try.prog Hn.hints j_ref04_MatrixErr (tabT [e_ref04_CheckMatrix]) 40 25 (ofPms e_ref04_MatrixErr.ps x) e_ref04_MatrixErr.rs = e_ref04_MatrixErr.F x := by kernel_rfl
theorem o_ref04_MatrixErr : EntryOk Try.prog Hn.hints Lb e_ref04_MatrixErr := entry_ok (tab_cons o_ref04_CheckMatrix tab_nil) hJ 40 _ _ _ _ k_ref04_MatrixErr
/-- ductility/ductilityref04.Product -/
def ref04_Product (a0 : (List (List (Int × Int × Unit)))) (a1 : (List (List (Int × Int × Unit)))) : Option (List (List (Int × Int × Unit))) :=
  (loopO (fun (s3 : ((List (List (Int × Int × Unit))) × Int)) =>
      bif decide (s3.2 < (a0.length : Int)) then
        (loopO (fun (s6 : ((List (Int × Int × Unit)) × Int)) =>
            (idx a1 0).bind fun x7 =>
            bif decide (s6.2 < (x7.length : Int)) then
              (loopO (fun (s9 : (Int × Int × Int)) =>
                  bif decide (s9.1 < (a1.length : Int)) then
                    (idx a0 s3.2).bind fun x10 =>
                    (idx x10 s9.1).bind fun x11 =>
                    (idx a1 s9.1).bind fun x12 =>
                    (idx x12 s6.2).bind fun x13 =>
                    (base_GMul x11 x13).bind fun x14 =>
                    (base_GAdd (s9.2.1, s9.2.2, ()) x14).bind fun x15 =>
                    some (.inl (w64 (s9.1 + 1), x15.1, x15.2.1))
                  else
                    some (.inr (s9.2.1, s9.2.2))) (0, 0, 0)).bind fun (p16 : (Int × Int)) =>
              (app s6.1 ([(p16.1, p16.2, ())])).bind fun x17 =>
              some (.inl (x17, w64 (s6.2 + 1)))
            else
              some (.inr s6.1)) ([], 0)).bind fun (p18 : (List (Int × Int × Unit))) =>
        (app s3.1 ([p18])).bind fun x19 =>
        some (.inl (x19, w64 (s3.2 + 1)))
      else
        some (.inr s3.1)) ([], 0)).bind fun (p20 : (List (List (Int × Int × Unit)))) =>
  some p20
def e_ref04_Product : Entry := ⟨27, [.ty (.sl (.sl (.pair I (.pair I .unit)))), .ty (.sl (.sl (.pair I (.pair I .unit))))], [((.sl (.sl (.pair I (.pair I .unit)))), 2)], fun x => ref04_Product x.1 x.2⟩
def j_ref04_Product : TH := mkTH [([], 27, .block 0, { lv := [⟨none, 5, 0⟩], ps := [((.sl (.sl (.pair I (.pair I .unit)))), 2)], D := ⟨72057594037927904⟩, wr := [⟨0, 9⟩] }),
  ([], 27, .loop 0, { lv := [⟨none, 5, 0⟩, ⟨none, 6, 0⟩], ps := [((.sl (.sl (.pair I (.pair I .unit)))), 2), (I, 0)], D := ⟨72057594037927904⟩, wr := [⟨0, 9⟩] }),
  ([], 27, .block 2, { lv := [⟨none, 7, 0⟩], ps := [((.sl (.pair I (.pair I .unit))), 1)], D := ⟨4503599627241344⟩, wr := [⟨0, 9⟩] }),
  ([], 27, .loop 2, { lv := [⟨none, 7, 0⟩, ⟨none, 8, 0⟩], ps := [((.sl (.pair I (.pair I .unit))), 1), (I, 0)], D := ⟨4503599627241344⟩, wr := [⟨0, 9⟩], rs := [⟨0, 9⟩] }),
  ([], 27, .block 4, { lv := [⟨some 0, 9, 0⟩, ⟨some 0, 9, 1⟩], ps := [(I, 0), (I, 0)], D := ⟨281474943157248⟩, wr := [⟨0, 9⟩] }),
  ([], 27, .loop 4, { lv := [⟨none, 10, 0⟩, ⟨some 0, 9, 0⟩, ⟨some 0, 9, 1⟩], ps := [(I, 0), (I, 0), (I, 0)], D := ⟨281474943157248⟩, wr := [⟨0, 9⟩] })] []
theorem k_ref04_Product (x : denP e_ref04_Product.ps) : fnT Try.prog Hn.hints j_ref04_Product (tabT [e_base_GAdd, e_base_GMul]) 40 27 (ofPms e_ref04_Product.ps x) e_ref04_Product.rs = e_ref04_Product.F x := by kernel_rfl
theorem o_ref04_Product : EntryOk Try.prog Hn.hints Lb e_ref04_Product := entry_ok (tab_cons o_base_GAdd (tab_cons o_base_GMul tab_nil)) hJ 40 _ _ _ _ k_ref04_Product
/-- ductility/ductilitybase.Gausses -/
def base_Gausses (a0 : (List (Int × Int × Unit))) (a1 : (List (Int × Int × Unit))) : Option Bool :=
  bif !(decide ((a0.length : Int) = (a1.length : Int))) then
    some false
  else
    (loopO (fun (s2 : Int) =>
        bif decide (s2 < (a0.length : Int)) then
          (idx a0 s2).bind fun x3 =>
          (idx a1 s2).bind fun x4 =>
          let v5 : Bool := !(bif decide (x3.1 = x4.1) then (bif decide (x3.2.1 = x4.2.1) then true else false) else false)
          bif v5 then
            some (.inr (.inr false))
          else
            some (.inl (w64 (s2 + 1)))
        else
          some (.inr (.inl ()))) 0).bind (Sum.elim (fun (p6 : Unit) =>
    some true) some)
def e_base_Gausses : Entry := ⟨62, [.ty (.sl (.pair I (.pair I .unit))), .ty (.sl (.pair I (.pair I .unit)))], [(.bool, 0)], fun x => base_Gausses x.1 x.2⟩
def j_base_Gausses : TH := mkTH [([], 62, .block 0, { lv := [], ps := [], abn := true, D := ⟨67106864⟩ }),
  ([], 62, .loop 0, { lv := [⟨none, 5, 0⟩], ps := [(I, 0)], D := ⟨67106864⟩ })] []
theorem k_base_Gausses (x : denP e_base_Gausses.ps) : fnT Try.prog Hn.hints j_base_Gausses (tabT []) 40 62 (ofPms e_base_Gausses.ps x) e_base_Gausses.rs = e_base_Gausses.F x := by kernel_rfl
theorem o_base_Gausses : EntryOk Try.prog Hn.hints Lb e_base_Gausses := entry_ok tab_nil hJ 40 _ _ _ _ k_base_Gausses
/-- ductility/ductilityref04.SameMatrix -/
def ref04_SameMatrix (a0 : (List (List (Int × Int × Unit)))) (a1 : (List (List (Int × Int × Unit)))) : Option Bool :=
  bif !(decide ((a0.length : Int) = (a1.length : Int))) then
    some false
  else
    (loopO (fun (s2 : Int) =>
        bif decide (s2 < (a0.length : Int)) then
          (idx a0 s2).bind fun x3 =>
          (idx a1 s2).bind fun x4 =>
          (base_Gausses x3 x4).bind fun x5 =>
          bif !x5 then
            some (.inr (.inr false))
          else
            some (.inl (w64 (s2 + 1)))
        else
          some (.inr (.inl ()))) 0).bind (Sum.elim (fun (p6 : Unit) =>
    some true) some)
def e_ref04_SameMatrix : Entry := ⟨26, [.ty (.sl (.sl (.pair I (.pair I .unit)))), .ty (.sl (.sl (.pair I (.pair I .unit))))], [(.bool, 0)], fun x => ref04_SameMatrix x.1 x.2⟩
def j_ref04_SameMatrix : TH := mkTH [([], 26, .block 0, { lv := [], ps := [], abn := true, D := ⟨134215728⟩ }),
  ([], 26, .loop 0, { lv := [⟨none, 5, 0⟩], ps := [(I, 0)], D := ⟨134215728⟩ })] []
theorem k_ref04_SameMatrix (x : denP e_ref04_SameMatrix.ps) : fnT Try.prog Hn.hints j_ref04_SameMatrix (tabT [e_base_Gausses]) 40 26 (ofPms e_ref04_SameMatrix.ps x) e_ref04_SameMatrix.rs = e_ref04_SameMatrix.F x := by kernel_rfl
theorem o_ref04_SameMatrix : EntryOk Try.prog Hn.hints Lb e_ref04_SameMatrix := entry_ok (tab_cons o_base_Gausses tab_nil) hJ 40 _ _ _ _ k_ref04_SameMatrix
/-- ductility/ductilitylaw04.DriveMatrices -/
def law04_DriveMatrices (a0 : (List (List (Int × Int × Unit)))) (a1 : (List (List (Int × Int × Unit)))) : Option Bool :=
  (law04_awake).bind fun x1 =>
  bif !x1 then
    some false
  else
    ((law04_few a0).bind fun x2 =>
      bif !x2 then
        some true
      else
        (law04_few a1).bind fun x3 =>
        some (!x3)).bind fun (p4 : Bool) =>
    bif p4 then
      some true
    else
      (ref04_CopyMatrix a0).bind fun x5 =>
      (drive_CheckMatrix x5).bind fun x6 =>
      (ref04_CopyMatrix a0).bind fun x7 =>
      (ref04_CopyMatrix a1).bind fun x8 =>
      (drive_ProductOf x7 x8).bind fun x9 =>
      (ref04_CopyMatrix a0).bind fun x10 =>
      (drive_DeterminantOf x10).bind fun x11 =>
      (ref04_CheckMatrix a0).bind fun x12 =>
      (bif !(decide (x6.2 = x12.2)) then
          some true
        else
          bif !(decide (x6.1 = x12.1)) then
            some true
          else
            bif !(decide (x12.2 = 0)) then
              bif !(decide (x11.2 = x12.2)) then
                some true
              else
                let v13 : Bool := !(bif decide (x11.1.1 = 0) then (bif decide (x11.1.2.1 = 0) then true else false) else false)
                bif v13 then
                  some true
                else
                  bif decide (x12.2 = 0) then
                    bif !(decide (x11.2 = 0)) then
                      some true
                    else
                      (ref04_Determinant a0).bind fun x14 =>
                      let v15 : Bool := !(bif decide (x11.1.1 = x14.1) then (bif decide (x11.1.2.1 = x14.2.1) then true else false) else false)
                      some v15
                  else
                    some false
            else
              bif decide (x12.2 = 0) then
                bif !(decide (x11.2 = 0)) then
                  some true
                else
                  (ref04_Determinant a0).bind fun x16 =>
                  let v17 : Bool := !(bif decide (x11.1.1 = x16.1) then (bif decide (x11.1.2.1 = x16.2.1) then true else false) else false)
                  some v17
              else
                some false).bind fun (p18 : Bool) =>
      bif p18 then
        some false
      else
        (bif decide (x12.2 = 0) then
            (ref04_MatrixErr a1).bind fun x19 =>
            some x19
          else
            some x12.2).bind fun (p20 : Int) =>
        (bif decide (p20 = 0) then
            some (!(decide ((a0.length : Int) = (a1.length : Int))))
          else
            some false).bind fun (p21 : Bool) =>
        (bif p21 then
            some 13
          else
            some p20).bind fun (p22 : Int) =>
        bif !(decide (p22 = 0)) then
          (bif decide (x9.2 = p22) then
              some (decide ((x9.1.length : Int) = 0))
            else
              some false).bind fun (p23 : Bool) =>
          some p23
        else
          (bif !(decide (x9.2 = 0)) then
              some true
            else
              (ref04_Product a0 a1).bind fun x24 =>
              (ref04_SameMatrix x9.1 x24).bind fun x25 =>
              some (!x25)).bind fun (p26 : Bool) =>
          bif p26 then
            some false
          else
            (ref04_CopyMatrix a1).bind fun x27 =>
            (drive_DeterminantOf x27).bind fun x28 =>
            (bif !(decide (x28.2 = 0)) then
                some true
              else
                (ref04_MatrixErr x9.1).bind fun x29 =>
                some (!(decide (x29 = 0)))).bind fun (p30 : Bool) =>
            bif p30 then
              some (decide (x28.2 = 0))
            else
              (drive_DeterminantOf x9.1).bind fun x31 =>
              (bif decide (x31.2 = 0) then
                  (base_GMul x11.1 x28.1).bind fun x32 =>
                  let v33 : Bool := (bif decide (x31.1.1 = x32.1) then (bif decide (x31.1.2.1 = x32.2.1) then true else false) else false)
                  some v33
                else
                  some false).bind fun (p34 : Bool) =>
              some p34
def e_law04_DriveMatrices : Entry := ⟨5, [.ty (.sl (.sl (.pair I (.pair I .unit)))), .ty (.sl (.sl (.pair I (.pair I .unit))))], [(.bool, 0)], fun x => law04_DriveMatrices x.1 x.2⟩
def j_law04_DriveMatrices : TH := mkTH [([], 5, .region 3, { lv := [⟨none, 26, 0⟩], ps := [(.bool, 0)], D := ⟨133693440⟩ }),
  ([], 5, .region 9, { lv := [⟨none, 87, 0⟩], ps := [(.bool, 0)], D := ⟨309485009816841469097410560⟩ }),
  ([], 5, .cond 89, { lv := [⟨none, 12, 0⟩], ps := [(I, 0)], D := ⟨3713820117856140824697376768⟩ }),
  ([], 5, .region 13, { lv := [⟨none, 100, 0⟩], ps := [(.bool, 0)], D := ⟨2530349440299317281893809913856⟩ }),
  ([], 5, .cond 100, { lv := [⟨none, 12, 0⟩], ps := [(I, 0)], D := ⟨4096⟩ }),
  ([], 5, .region 16, { lv := [⟨none, 4, 0⟩], ps := [(.bool, 0)], D := ⟨2586007224465587979053274538967184⟩ }),
  ([], 5, .region 17, { lv := [⟨none, 120, 0⟩], ps := [(.bool, 0)], D := ⟨2655859843140564331993348872396079104⟩ }),
  ([], 5, .region 20, { lv := [⟨none, 133, 0⟩], ps := [(.bool, 0)], D := ⟨21607930299479592429924287571917281427456⟩ }),
  ([], 5, .region 23, { lv := [⟨none, 4, 0⟩], ps := [(.bool, 0)], D := ⟨1424460099556143553165594004665414091194499088⟩ })] []
theorem k_law04_DriveMatrices (x : denP e_law04_DriveMatrices.ps) : fnT Try.prog Hn.hints j_law04_DriveMatrices (tabT [e_base_GMul, e_drive_CheckMatrix, e_drive_DeterminantOf, e_drive_ProductOf, e_law04_awake, e_law04_few, e_ref04_CheckMatrix, e_ref04_CopyMatrix, e_ref04_Determinant, e_ref04_MatrixErr, e_ref04_Product, e_ref04_SameMatrix]) 40 5 (ofPms e_law04_DriveMatrices.ps x) e_law04_DriveMatrices.rs = e_law04_DriveMatrices.F x := by kernel_rfl
theorem o_law04_DriveMatrices : EntryOk Try.prog Hn.hints Lb e_law04_DriveMatrices := entry_ok (tab_cons o_base_GMul (tab_cons o_drive_CheckMatrix (tab_cons o_drive_DeterminantOf (tab_cons o_drive_ProductOf (tab_cons o_law04_awake (tab_cons o_law04_few (tab_cons o_ref04_CheckMatrix (tab_cons o_ref04_CopyMatrix (tab_cons o_ref04_Determinant (tab_cons o_ref04_MatrixErr (tab_cons o_ref04_Product (tab_cons o_ref04_SameMatrix tab_nil)))))))))))) hJ 40 _ _ _ _ k_law04_DriveMatrices
end
end Go.Proofs.Ytbcdgfgacigaoaa
end
section
/-
  MATRICES: the program's and the reference's checks, products and determinants.
-/
set_option linter.unusedVariables false
set_option linter.unusedSimpArgs false
namespace Go.Proofs.Ytbcdgfgacigaoaa.Mat
open Go Go.Ab Go.Tx Go.Proofs.Ytbcdgfgacigaoaa

theorem wid {n : Int} (h1 : -9223372036854775808 ≤ n) (h2 : n ≤ 9223372036854775807) : w64 n = n := wrap_id h1 h2
theorem Within_ok (a b c : Int) : base_Within a b c = some (decide (b ≤ a ∧ a ≤ c)) := by
  unfold base_Within
  by_cases h : b ≤ a <;> simp [h]
theorem within_ok (a b c : Int) : drive_within a b c = some (decide (b ≤ a ∧ a ≤ c)) := by
  unfold drive_within
  by_cases h : b ≤ a <;> simp [h]
theorem isSized_ok (a k : Int) (h0 : 0 ≤ k) (h1 : k ≤ 4611686018427387904) : drive_isSized a k = some (decide (-k ≤ a ∧ a ≤ k)) := by
  unfold drive_isSized
  rw [within_ok, wid (by omega) (by omega)]
  simp
theorem unless_eq (b : Bool) (e : Int) : drive_unless b e = some (if b then 0 else e) := by cases b <;> rfl
theorem first_eq (l : List Int) (h : l.length ≤ 1000000000) : drive_first l = some (fst0 l) := by
  unfold drive_first
  rw [for_first l h]
instance (B : Int) (z : G) : Decidable (Bd B z) := inferInstanceAs (Decidable (_ ∧ _))
theorem whole_isSized_ok (z : G) (k : Int) (h0 : 0 ≤ k) (h1 : k ≤ 4611686018427387904) : drive_whole_isSized z k = some (decide (Bd k z)) := by
  unfold drive_whole_isSized
  rw [isSized_ok _ _ h0 h1, isSized_ok _ _ h0 h1]
  unfold Bd
  by_cases c : -k ≤ z.1 ∧ z.1 ≤ k <;> simp [c]
theorem refIsSized_ok (z : G) (k : Int) (h0 : 0 ≤ k) (h1 : k ≤ 4611686018427387904) : ref04_isSized z k = some (decide (Bd k z)) := by
  unfold ref04_isSized
  rw [wid (by omega) (by omega), Within_ok, Within_ok]
  unfold Bd
  have e : (0 : Int) - k = -k := by omega
  rw [e]
  by_cases c : -k ≤ z.1 ∧ z.1 ≤ k <;> simp [c]
/-! ### checks -/
def badZ (B : Int) (z : G) : Bool := !(decide (Bd B z))
def rowE (n : Nat) (i : Nat) (r : List G) : Option (Int × Int) := if r.length = n then (if r.any (badZ 20) then some ((i : Int), 2) else none) else some ((i : Int), 10)
def chkM (m : Mx) : Int × Int := if m.length = 0 then (0, 10) else if 3 < m.length then (0, 8) else (findI (rowE m.length) 0 m).getD (0, 0)
def matE (m : Mx) : Int := (chkM m).2
theorem contains_ok (r : List G) (h : r.length ≤ 1000000000) : slices_ContainsFunc_Lapi_Gauss_api_Gauss_of_drive_CheckMatrix_1 r = some (r.any (badZ 20)) := by
  unfold slices_ContainsFunc_Lapi_Gauss_api_Gauss_of_drive_CheckMatrix_1 slices_IndexFunc_Lapi_Gauss_api_Gauss_of_drive_CheckMatrix_1
  refine for_any r drive_CheckMatrix_1 (badZ 20) (fun x _ => ?_) h
  unfold drive_CheckMatrix_1
  rw [whole_isSized_ok _ _ (by omega) (by omega)]; rfl
theorem CheckMatrix_ok {m : Mx} (h : m.length ≤ 1000000000) (hr : ∀ r ∈ m, r.length ≤ 1000000000) : drive_CheckMatrix m = some (chkM m) := by
  unfold drive_CheckMatrix chkM
  simp only [unless_eq, Option.bind_some]
  rw [first_eq _ (by simp)]
  simp only [Option.bind_some]
  by_cases h0 : m.length = 0
  · have h0' : ¬ ((m.length : Int) > 0) := by omega
    simp [h0, fst0]
  · have h0' : (m.length : Int) > 0 := by omega
    by_cases h4 : 3 < m.length
    · have h4' : ¬ ((m.length : Int) ≤ 3) := by omega
      simp [h0, h0', h4, h4', fst0]
    · have h4' : (m.length : Int) ≤ 3 := by omega
      simp only [h0, h0', h4, h4', decide_true, if_true, if_false, fst0, Bool.not_true, cond_false]
      rw [for_find m _ (rowE m.length) (fun i r hi => ?_), elim_toSum]
      · cases findI (rowE m.length) 0 m <;> rfl
      · have hlt := len_lt hi
        rw [idx_of hi]
        simp only [Option.bind_some]
        rw [contains_ok r (hr r (List.mem_of_getElem? hi))]
        simp only [Option.bind_some]
        rw [first_eq _ (by simp), wid (by omega) (by omega)]
        simp only [Option.bind_some]
        unfold rowE
        by_cases c : r.length = m.length
        · have c' : (r.length : Int) = (m.length : Int) := by omega
          cases hb : r.any (badZ 20)
          · simp [c, c', hb, fst0, stp]
          · simp [c, c', hb, fst0, stp]
        · have c' : ¬ (r.length : Int) = (m.length : Int) := by omega
          simp [c, c', fst0, stp]
theorem refCheckMatrix_ok {m : Mx} (h : m.length ≤ 1000000000) (hr : ∀ r ∈ m, r.length ≤ 1000000000) : ref04_CheckMatrix m = some (chkM m) := by
  unfold ref04_CheckMatrix chkM
  by_cases h0 : m.length = 0
  · simp [h0]
  have h0' : ¬ ((m.length : Int) = 0) := by omega
  by_cases h4 : 3 < m.length
  · have h4' : (m.length : Int) > 3 := by omega
    simp [h0, h0', h4, h4']
  have h4' : ¬ ((m.length : Int) > 3) := by omega
  simp only [h0, h0', h4, h4', decide_false, cond_false, if_false]
  rw [for_find m _ (rowE m.length) (fun i r hi => ?_), elim_toSum]
  · cases findI (rowE m.length) 0 m <;> rfl
  · have hlt := len_lt hi
    have hrl := hr r (List.mem_of_getElem? hi)
    rw [idx_of hi]
    simp only [Option.bind_some]
    unfold rowE
    by_cases c : r.length = m.length
    case neg =>
      have c' : ¬ (r.length : Int) = (m.length : Int) := by omega
      simp [c, c', stp]
    have c' : decide ((r.length : Int) = (m.length : Int)) = true := decide_eq_true (by omega)
    simp only [c', Bool.not_true, cond_false]
    rw [if_pos c]
    rw [for_find r _ (fun _ z => if badZ 20 z then some (Sum.inr (Sum.inr ((i : Int), (2 : Int))) : Int ⊕ (Unit ⊕ (Int × Int))) else none) (fun k z hk => ?_), elim_toSum]
    · cases hf : findI (fun _ z => if badZ 20 z then some (Sum.inr (Sum.inr ((i : Int), (2 : Int))) : Int ⊕ (Unit ⊕ (Int × Int))) else none) 0 r with
      | none =>
        rw [findI_none] at hf
        have hb : r.any (badZ 20) = false := by
          rw [List.any_eq_false]
          intro x hx
          obtain ⟨k, hk⟩ := List.mem_iff_getElem?.1 hx
          have := hf k x hk
          simpa using this
        simp only [hb, Bool.false_eq_true, if_false, stp]
        rw [wid (by omega) (by omega)]
      | some q =>
        obtain ⟨k, z, h1, h2, _⟩ := findI_some hf
        have hp : badZ 20 z = true := by
          cases hp : badZ 20 z
          · simp [hp] at h2
          · rfl
        have hb : r.any (badZ 20) = true := List.any_eq_true.2 ⟨z, List.mem_of_getElem? h1, hp⟩
        simp only [hp, if_true, Option.some.injEq] at h2
        simp only [hb, if_true, stp, ← h2]
    · have hlk := len_lt hk
      simp only [Option.bind_some, idx_of hk]
      rw [refIsSized_ok _ _ (by omega) (by omega)]
      simp only [Option.bind_some]
      rw [wid (by omega) (by omega)]
      unfold badZ
      by_cases d : Bd 20 z <;> simp [d, stp]
theorem matrixErr_ok {m : Mx} (h : m.length ≤ 1000000000) (hr : ∀ r ∈ m, r.length ≤ 1000000000) : drive_matrixErr m = some (matE m) := by
  unfold drive_matrixErr; rw [CheckMatrix_ok h hr]; rfl
theorem MatrixErr_ok {m : Mx} (h : m.length ≤ 1000000000) (hr : ∀ r ∈ m, r.length ≤ 1000000000) : ref04_MatrixErr m = some (matE m) := by
  unfold ref04_MatrixErr; rw [refCheckMatrix_ok h hr]; rfl
theorem chk_index {m : Mx} (h : matE m = 0) : chkM m = (0, 0) := by
  unfold matE chkM at *
  split at h
  · cases h
  · rename_i h1
    split at h
    · cases h
    · rename_i h2
      rw [if_neg h1, if_neg h2]
      cases hf : findI (rowE m.length) 0 m with
      | none => rfl
      | some r =>
        rw [hf] at h
        obtain ⟨i, a, _, h3, _⟩ := findI_some hf
        unfold rowE at h3
        split at h3
        · split at h3
          · cases h3; cases h
          · cases h3
        · cases h3; cases h
theorem mat_ok {m : Mx} (h : matE m = 0) : 1 ≤ m.length ∧ m.length ≤ 3 ∧ Rect m.length m.length m ∧ BdM 20 m := by
  unfold matE chkM at h
  split at h
  · cases h
  · rename_i h1
    split at h
    · cases h
    · rename_i h2
      have hn : findI (rowE m.length) 0 m = none := by
        cases hf : findI (rowE m.length) 0 m with
        | none => rfl
        | some r =>
          exfalso
          rw [hf] at h
          obtain ⟨i, a, _, h3, _⟩ := findI_some hf
          unfold rowE at h3
          split at h3
          · split at h3
            · cases h3; cases h
            · cases h3
          · cases h3; cases h
      rw [findI_none] at hn
      have key : ∀ r ∈ m, r.length = m.length ∧ r.any (badZ 20) = false := fun r hr => by
        obtain ⟨i, hi⟩ := List.mem_iff_getElem?.1 hr
        have := hn i r hi
        unfold rowE at this
        split at this
        · rename_i c
          split at this
          · cases this
          · rename_i d; exact ⟨c, by simpa using d⟩
        · cases this
      refine ⟨by omega, by omega, ⟨rfl, fun r hr => (key r hr).1⟩, fun r hr z hz => ?_⟩
      have := List.any_eq_false.1 (key r hr).2 z hz
      unfold badZ at this
      simpa using this
/-! ### products -/
theorem at_ok {n c i k : Nat} (f : Nat → Nat → G) (hi : i < n) (hk : k < c) : drive_matrix_at (mx n c f) (i : Int) (k : Int) = some (f i k) := by
  unfold drive_matrix_at
  rw [idx_of (mx_at f hi), Option.bind_some, idx_of (mkL_get (fun k => f i k) hk)]; rfl
theorem times_ok' {A B : Int} {a b : G} (h : Bd A a) (h' : Bd B b) (hb : 2 * (A * B) ≤ 9000000000000000000) : drive_whole_times a b = some (gmul a b) := congrArg some (mul_w h h' hb)
theorem plus_ok {A B : Int} {a b : G} (h : Bd A a) (h' : Bd B b) (hb : A + B ≤ 9000000000000000000) : drive_whole_plus a b = some (gadd a b) := congrArg some (add_w h h' hb)
theorem GMul_ok {A B : Int} {a b : G} (h : Bd A a) (h' : Bd B b) (hb : 2 * (A * B) ≤ 9000000000000000000) : base_GMul a b = some (gmul a b) := congrArg some (mul_w h h' hb)
theorem GAdd_ok {A B : Int} {a b : G} (h : Bd A a) (h' : Bd B b) (hb : A + B ≤ 9000000000000000000) : base_GAdd a b = some (gadd a b) := congrArg some (add_w h h' hb)
theorem le_next {i n : Nat} {A : Int} (hA : 0 ≤ A) (h : i < n) (hb : (n : Int) * A ≤ 9000000000000000000) : (i : Int) * A + A ≤ 9000000000000000000 := by
  have : ((i + 1 : Nat) : Int) * A ≤ (n : Int) * A := Int.mul_le_mul_of_nonneg_right (by omega) hA
  have e : ((i + 1 : Nat) : Int) * A = (i : Int) * A + A := by rw [Int.natCast_add, Int.add_mul]; simp
  omega
theorem times1_ok {a b c i k : Nat} {A B : Int} {f h : Nat → Nat → G} (hA : 0 ≤ A) (hB : 0 ≤ B) (hf : BdF A a b f) (hh : BdF B b c h) (hb : b ≤ 1000) (hbd : (b : Int) * (2 * (A * B)) ≤ 9000000000000000000) (hb1 : 2 * (A * B) ≤ 9000000000000000000) (hi : i < a) (hk : k < c) :
    drive_matrix_times_1 (i : Int) (k : Int) (mx b c h) (mx a b f) = some (prodF b f h i k) := by
  unfold drive_matrix_times_1
  rw [mx_len]
  have h0 : 0 ≤ 2 * (A * B) := by have := Int.mul_nonneg hA hB; omega
  rw [sum_loop b hb h0 hbd (fun j => gmul (f i j) (h j k)) (fun j hj => (hf i j hi hj).mul (hh j k hj hk)) (fun j hj x y hxy => ?_) (fun x y => ?_)]
  · rfl
  · have e0 : decide ((j : Int) < (b : Int)) = true := decide_eq_true (by omega)
    simp only [e0, cond_true]
    rw [at_ok f hi hj, at_ok h hj hk]
    simp only [Option.bind_some]
    rw [times_ok' (hf i j hi hj) (hh j k hj hk) hb1]
    simp only [Option.bind_some]
    rw [plus_ok hxy ((hf i j hi hj).mul (hh j k hj hk)) (le_next h0 hj hbd)]
    rfl
  · have e0 : decide ((b : Int) < (b : Int)) = false := by simp
    simp only [e0, cond_false]
theorem times_ok {a b c : Nat} {A B : Int} {f h : Nat → Nat → G} (hA : 0 ≤ A) (hB : 0 ≤ B) (hf : BdF A a b f) (hh : BdF B b c h) (ha : a ≤ 1000) (hb : b ≤ 1000) (hb1 : 1 ≤ b) (hc : c ≤ 1000) (hbd : (b : Int) * (2 * (A * B)) ≤ 9000000000000000000) :
    drive_matrix_times (mx a b f) (mx b c h) = some (mx a c (prodF b f h)) := by
  unfold drive_matrix_times drive_made_of_drive_matrix_times_1
  rw [idx_zero, mx_at h (by omega), Option.bind_some, mkL_len, mx_len]
  have h0 : 0 ≤ 2 * (A * B) := by have := Int.mul_nonneg hA hB; omega
  have h1 : 2 * (A * B) ≤ 9000000000000000000 := by
    have := Int.mul_le_mul_of_nonneg_right (show (1 : Int) ≤ b by omega) h0
    omega
  have := made_loop a c ha hc (fun i k => drive_matrix_times_1 i k (mx b c h) (mx a b f)) (prodF b f h) (fun i k hi hk => times1_ok hA hB hf hh hb hbd h1 hi hk)
  show Option.bind _ _ = _
  rw [this]; rfl
theorem Product_ok {a b c : Nat} {A B : Int} {f h : Nat → Nat → G} (hA : 0 ≤ A) (hB : 0 ≤ B) (hf : BdF A a b f) (hh : BdF B b c h) (ha : a ≤ 1000) (hb : b ≤ 1000) (hb1 : 1 ≤ b) (hc : c ≤ 1000) (hbd : (b : Int) * (2 * (A * B)) ≤ 9000000000000000000) :
    ref04_Product (mx a b f) (mx b c h) = some (mx a c (prodF b f h)) := by
  unfold ref04_Product
  rw [mx_len, mx_len]
  have h0 : 0 ≤ 2 * (A * B) := by have := Int.mul_nonneg hA hB; omega
  have h1 : 2 * (A * B) ≤ 9000000000000000000 := by
    have := Int.mul_le_mul_of_nonneg_right (show (1 : Int) ≤ b by omega) h0
    omega
  rw [for_mk a (fun i => mkL c fun k => prodF b f h i k) (fun i hi => ?_) ?_]
  · rfl
  · have e0 : decide ((a : Int) < (a : Int)) = false := by simp
    simp only [e0, cond_false]
  · have e0 : decide ((i : Int) < (a : Int)) = true := decide_eq_true (by omega)
    simp only [e0, cond_true]
    rw [for_mk c (fun k => prodF b f h i k) (fun k hk => ?_) ?_]
    · simp only [Option.bind_some]
      rw [app_one (by rw [mkL_len]; omega)]
      simp only [Option.bind_some]
      rw [wid (by omega) (by omega)]
    · have e1 : decide ((c : Int) < (c : Int)) = false := by simp
      rw [idx_zero, mx_at h (by omega)]
      simp only [Option.bind_some, mkL_len, e1, cond_false]
    · have e1 : decide ((k : Int) < (c : Int)) = true := decide_eq_true (by omega)
      rw [idx_zero, mx_at h (by omega)]
      simp only [Option.bind_some, mkL_len, e1, cond_true]
      rw [sum_loop b hb h0 hbd (fun j => gmul (f i j) (h j k)) (fun j hj => (hf i j hi hj).mul (hh j k hj hk)) (fun j hj x y hxy => ?_) (fun x y => ?_)]
      · simp only [Option.bind_some]
        rw [app_one (by rw [mkL_len]; omega)]
        simp only [Option.bind_some]
        rw [wid (by omega) (by omega)]
        rfl
      · have e0 : decide ((j : Int) < (b : Int)) = true := decide_eq_true (by omega)
        simp only [e0, cond_true]
        rw [idx_of (mx_at f hi), Option.bind_some, idx_of (mkL_get (fun k => f i k) hj), Option.bind_some, idx_of (mx_at h hj), Option.bind_some, idx_of (mkL_get (fun k => h j k) hk), Option.bind_some]
        rw [GMul_ok (hf i j hi hj) (hh j k hj hk) h1]
        simp only [Option.bind_some]
        rw [GAdd_ok hxy ((hf i j hi hj).mul (hh j k hj hk)) (le_next h0 hj hbd)]
        rfl
      · have e0 : decide ((b : Int) < (b : Int)) = false := by simp
        simp only [e0, cond_false]
/-! ### determinants -/
theorem without_ok {n c : Nat} (hn : n ≤ 1000) (f : Nat → Nat → G) (hc : c < n + 1) : drive_matrix_without (mx (n + 1) (n + 1) f) 0 (c : Int) = some (mx n n (minor f 0 c)) := by
  unfold drive_matrix_without
  rw [mx_len]
  refine Ok.eq ?_
  rw [ok_bind]
  refine (loop_up (n + 1) (fun i (s : Mx × Int) => s = (mkL (i - 1) (fun j => mkL n fun k => minor f 0 c j k), (i : Int))) (fun r => r = mx n n (minor f 0 c)) rfl ?_).mono (fun a ha => by rw [ha]; exact ok_some.2 rfl)
  rintro i s hi rfl
  by_cases hlt : i < n + 1
  · have e0 : decide ((i : Int) < ((n + 1 : Nat) : Int)) = true := decide_eq_true (by omega)
    simp only [e0, cond_true]
    rw [idx_of (mx_at f hlt)]
    simp only [Option.bind_some]
    by_cases hz : i = 0
    · subst hz
      simp only [Int.ofNat_eq_natCast, Int.natCast_zero, decide_true, Bool.not_true, cond_false, Option.bind_some]
      rw [wid (by omega) (by omega), rnd_inl]
      exact ⟨by omega, rfl⟩
    · have e1 : decide ((i : Int) = 0) = false := decide_eq_false (by omega)
      simp only [e1, Bool.not_false, cond_true]
      rw [slc_in (by rw [mkL_len]; omega)]
      simp only [Option.bind_some, decide_true, cond_true]
      rw [wid (n := (c : Int) + 1) (by omega) (by omega), slc_in (by rw [mkL_len]; omega)]
      simp only [Option.bind_some, mkL_len]
      have e2 : ((c : Int) + 1).toNat = c + 1 := by omega
      have e3 : ((n + 1 : Nat) : Int).toNat = n + 1 := by omega
      have e4 : (0 : Int).toNat = 0 := rfl
      rw [e2, e3, e4, Int.toNat_natCast, app_in (by simp [mkL_len]; omega)]
      simp only [Option.bind_some]
      rw [mkL_cut (fun k => f i k) hc, app_one (by rw [mkL_len]; omega)]
      simp only [Option.bind_some]
      rw [wid (by omega) (by omega), rnd_inl]
      refine ⟨hlt, ?_⟩
      have e5 : i + 1 - 1 = (i - 1) + 1 := by omega
      rw [e5, mkL_succ]
      congr 1
      congr 2
      refine mkL_congr fun k hk => ?_
      unfold minor
      congr 1
      all_goals (unfold skip; rw [if_neg (by omega)]; omega)
  · have : i = n + 1 := by omega
    subst this
    have e0 : decide (((n + 1 : Nat) : Int) < ((n + 1 : Nat) : Int)) = false := by simp
    simp only [e0, cond_false]
    rw [rnd_inr]
    rfl
theorem refWithout_ok {n c : Nat} (hn : n ≤ 1000) (f : Nat → Nat → G) (hc : c < n + 1) : ref04_without (mx (n + 1) (n + 1) f) 0 (c : Int) = some (mx n n (minor f 0 c)) := by
  unfold ref04_without
  rw [mx_len]
  refine Ok.eq ?_
  rw [ok_bind]
  refine (loop_up (n + 1) (fun i (s : Mx × Int) => s = (mkL (i - 1) (fun j => mkL n fun k => minor f 0 c j k), (i : Int))) (fun r => r = mx n n (minor f 0 c)) rfl ?_).mono (fun a ha => by rw [ha]; exact ok_some.2 rfl)
  rintro i s hi rfl
  by_cases hlt : i < n + 1
  · have e0 : decide ((i : Int) < ((n + 1 : Nat) : Int)) = true := decide_eq_true (by omega)
    simp only [e0, cond_true]
    by_cases hz : i = 0
    · subst hz
      simp only [Int.ofNat_eq_natCast, Int.natCast_zero, decide_true, cond_true, Option.bind_some]
      rw [wid (by omega) (by omega), rnd_inl]
      exact ⟨by omega, rfl⟩
    · have e1 : decide ((i : Int) = 0) = false := decide_eq_false (by omega)
      simp only [e1, cond_false]
      rw [rnd_bind, ok_bind]
      refine (loop_up (n + 1) (fun k (s : List G × Int) => s = (mkL (if k ≤ c then k else k - 1) (fun k => f i (skip c k)), (k : Int))) (fun r => r = mkL n fun k => f i (skip c k)) ?_ ?_).mono ?_
      · simp [mkL_zero]
      · rintro k s hk rfl
        by_cases hlt2 : k < n + 1
        · have e2 : decide ((k : Int) < ((n + 1 : Nat) : Int)) = true := decide_eq_true (by omega)
          simp only [e2, cond_true]
          by_cases hkc : k = c
          · subst hkc
            simp only [decide_true, Bool.not_true, cond_false, Option.bind_some]
            rw [wid (by omega) (by omega), rnd_inl]
            refine ⟨hlt2, ?_⟩
            rw [if_pos (by omega), if_neg (by omega)]
            rfl
          · have e3 : decide ((k : Int) = (c : Int)) = false := decide_eq_false (by omega)
            simp only [e3, Bool.not_false, cond_true]
            rw [idx_of (mx_at f hlt)]
            simp only [Option.bind_some]
            rw [idx_of (mkL_get (fun k => f i k) hlt2)]
            simp only [Option.bind_some]
            rw [app_one (by rw [mkL_len]; split <;> omega)]
            simp only [Option.bind_some]
            rw [wid (by omega) (by omega), rnd_inl]
            refine ⟨hlt2, ?_⟩
            congr 1
            by_cases hkl : k < c
            · rw [if_pos (by omega), if_pos (by omega), mkL_succ]
              congr 3
              unfold skip; rw [if_pos hkl]
            · rw [if_neg (by omega), if_neg (by omega)]
              have e5 : k + 1 - 1 = (k - 1) + 1 := by omega
              rw [e5, mkL_succ]
              congr 3
              unfold skip; rw [if_neg (by omega)]; omega
        · have : k = n + 1 := by omega
          subst this
          have e2 : decide (((n + 1 : Nat) : Int) < ((n + 1 : Nat) : Int)) = false := by simp
          simp only [e2, cond_false]
          rw [rnd_inr, if_neg (by omega)]
          rfl
      · rintro r rfl
        rw [app_one (by rw [mkL_len]; omega)]
        simp only [Option.bind_some]
        rw [ok_some, wid (by omega) (by omega), rnd_inl]
        refine ⟨hlt, ?_⟩
        have e5 : i + 1 - 1 = (i - 1) + 1 := by omega
        rw [e5, mkL_succ]
        congr 1
        congr 2
        refine mkL_congr fun k hk => ?_
        unfold minor
        congr 1
        all_goals (unfold skip; rw [if_neg (by omega)]; omega)
  · have : i = n + 1 := by omega
    subst this
    have e0 : decide (((n + 1 : Nat) : Int) < ((n + 1 : Nat) : Int)) = false := by simp
    simp only [e0, cond_false]
    rw [rnd_inr]
    rfl
theorem dB_mono {B : Int} (hB : 1 ≤ B) (n : Nat) : dB B n ≤ dB B (n + 1) := by
  have e : dB B (n + 1) = ((n + 1 : Nat) : Int) * (2 * (B * dB B n)) := rfl
  rw [e]
  have h0 := dB_nonneg (show 0 ≤ B by omega) n
  have h1 : dB B n ≤ B * dB B n := by
    have := Int.mul_le_mul_of_nonneg_right hB h0; omega
  have h2 : (1 : Int) * (2 * (B * dB B n)) ≤ ((n + 1 : Nat) : Int) * (2 * (B * dB B n)) := Int.mul_le_mul_of_nonneg_right (by omega) (by omega)
  omega
theorem det_ok {B : Int} (hB : 1 ≤ B) : ∀ (k n : Nat) (f : Nat → Nat → G), n ≤ 100 → n < k → BdF B n n f → dB B n ≤ 9000000000000000000 → drive_matrix_determinant_n k (mx n n f) = some (detF n f)
  | 0, n, f, _, h, _, _ => by omega
  | k + 1, 0, f, _, _, _, _ => rfl
  | k + 1, n + 1, f, hn, hk, hf, hb => by
    have hB0 : 0 ≤ B := by omega
    have hD0 := dB_nonneg hB0 n
    have h0 : 0 ≤ 2 * (B * dB B n) := by have := Int.mul_nonneg hB0 hD0; omega
    have hDn : dB B n ≤ 9000000000000000000 := by have := dB_mono hB n; omega
    have hb1 : 2 * (B * dB B n) ≤ 9000000000000000000 := by
      have h9 : (1 : Int) * (2 * (B * dB B n)) ≤ ((n + 1 : Nat) : Int) * (2 * (B * dB B n)) := Int.mul_le_mul_of_nonneg_right (by omega) h0
      simp only [dB] at hb
      omega
    have hunf : drive_matrix_determinant_n (k + 1) (mx (n + 1) (n + 1) f) = (bif decide (((mx (n + 1) (n + 1) f).length : Int) = 0) then some (1, 0, ()) else
      (loopO (fun (s2 : (Int × Int × Int)) =>
        bif decide (s2.1 < ((mx (n + 1) (n + 1) f).length : Int)) then
          (drive_matrix_at (mx (n + 1) (n + 1) f) (0 : Int) s2.1).bind fun x3 =>
          (drive_matrix_without (mx (n + 1) (n + 1) f) (0 : Int) s2.1).bind fun x4 =>
          (drive_matrix_determinant_n k x4).bind fun x5 =>
          (drive_whole_times x3 x5).bind fun x6 =>
          (bif decide (s2.1.tmod 2 = 1) then
              (drive_whole_minus (0, 0, ()) x6).bind fun x7 =>
              some (x7.1, x7.2.1)
            else
              some (x6.1, x6.2.1)).bind fun (p8 : (Int × Int)) =>
          (drive_whole_plus (s2.2.1, s2.2.2, ()) (p8.1, p8.2, ())).bind fun x9 =>
          some (.inl (w64 (s2.1 + 1), x9.1, x9.2.1))
        else
          some (.inr (s2.2.1, s2.2.2))) (0, 0, 0)).bind fun (p10 : (Int × Int)) =>
      some (p10.1, p10.2, ())) := rfl
    rw [hunf, mx_len]
    have e0 : decide (((n + 1 : Nat) : Int) = 0) = false := decide_eq_false (by omega)
    rw [e0, cond_false]
    have htb : ∀ j, j < n + 1 → Bd (2 * (B * dB B n)) (gmul (f 0 j) (detF n (minor f 0 j))) := fun j hj => (hf 0 j (by omega) hj).mul (detF_bd hB0 n _ (minor_bd hf))
    rw [sum_loop (n + 1) (by omega) h0 hb (fun j => if j % 2 = 1 then gneg (gmul (f 0 j) (detF n (minor f 0 j))) else gmul (f 0 j) (detF n (minor f 0 j)))
      (fun j hj => by split; · exact (htb j hj).neg
                      · exact htb j hj) (fun j hj x y hxy => ?_) (fun x y => ?_)]
    · rfl
    · have e1 : decide ((j : Int) < ((n + 1 : Nat) : Int)) = true := decide_eq_true (by omega)
      simp only [e1, cond_true]
      have hat := at_ok (n := n + 1) (c := n + 1) f (i := 0) (k := j) (by omega) hj
      simp only [Int.natCast_zero] at hat
      rw [hat]
      simp only [Option.bind_some]
      rw [without_ok (by omega) f hj]
      simp only [Option.bind_some]
      rw [det_ok hB k n _ (by omega) (by omega) (minor_bd hf) hDn]
      simp only [Option.bind_some]
      rw [times_ok' (hf 0 j (by omega) hj) (detF_bd hB0 n _ (minor_bd (r := 0) (c := j) hf)) hb1]
      simp only [Option.bind_some]
      have htm : (j : Int).tmod 2 = ((j % 2 : Nat) : Int) := by rw [Int.tmod_eq_emod_of_nonneg (by omega)]; omega
      rw [htm]
      by_cases hp : j % 2 = 1
      · have e2 : decide (((j % 2 : Nat) : Int) = 1) = true := decide_eq_true (by omega)
        rw [e2, cond_true, if_pos hp]
        have hm : drive_whole_minus (0, 0, ()) (gmul (f 0 j) (detF n (minor f 0 j))) = some (gneg (gmul (f 0 j) (detF n (minor f 0 j)))) := by
          have := sub_w (a := g0) (bd_zero (B := 0) (by omega)) (htb j hj) (by omega)
          rw [gzero_sub] at this
          exact congrArg some this
        rw [hm]
        simp only [Option.bind_some, geta]
        rw [plus_ok hxy (htb j hj).neg (le_next h0 hj hb)]
        rfl
      · have e2 : decide (((j % 2 : Nat) : Int) = 1) = false := decide_eq_false (by omega)
        rw [e2, cond_false, if_neg hp]
        simp only [Option.bind_some, geta]
        rw [plus_ok hxy (htb j hj) (le_next h0 hj hb)]
        rfl
    · have e1 : decide (((n + 1 : Nat) : Int) < ((n + 1 : Nat) : Int)) = false := by simp
      simp only [e1, cond_false]
theorem Mod2_ok (n : Nat) (h : n ≤ 1000000000) : base_Mod (n : Int) 2 = some ((n % 2 : Nat) : Int) := by
  unfold base_Mod
  have e : ((n : Int).tmod 2) = ((n % 2 : Nat) : Int) := by rw [Int.tmod_eq_emod_of_nonneg (by omega)]; omega
  rw [e]
  have e1 : decide ((2 : Int) = 0) = false := by decide
  have e2 : decide (((n % 2 : Nat) : Int) < 0) = false := decide_eq_false (by omega)
  simp only [e1, e2, cond_false, Option.bind_some]
theorem refDet_ok {B : Int} (hB : 1 ≤ B) : ∀ (k n : Nat) (f : Nat → Nat → G), n ≤ 100 → n < k → BdF B n n f → dB B n ≤ 9000000000000000000 → ref04_Determinant_n k (mx n n f) = some (detF n f)
  | 0, n, f, _, h, _, _ => by omega
  | k + 1, 0, f, _, _, _, _ => rfl
  | k + 1, n + 1, f, hn, hk, hf, hb => by
    have hB0 : 0 ≤ B := by omega
    have hD0 := dB_nonneg hB0 n
    have h0 : 0 ≤ 2 * (B * dB B n) := by have := Int.mul_nonneg hB0 hD0; omega
    have hDn : dB B n ≤ 9000000000000000000 := by have := dB_mono hB n; omega
    have hb1 : 2 * (B * dB B n) ≤ 9000000000000000000 := by
      have h9 : (1 : Int) * (2 * (B * dB B n)) ≤ ((n + 1 : Nat) : Int) * (2 * (B * dB B n)) := Int.mul_le_mul_of_nonneg_right (by omega) h0
      simp only [dB] at hb
      omega
    have hunf : ref04_Determinant_n (k + 1) (mx (n + 1) (n + 1) f) = (bif decide (((mx (n + 1) (n + 1) f).length : Int) = 0) then some (1, 0, ()) else
      (loopO (fun (s2 : (Int × Int × Int)) =>
        bif decide (s2.1 < ((mx (n + 1) (n + 1) f).length : Int)) then
          (idx (mx (n + 1) (n + 1) f) 0).bind fun x3 =>
          (idx x3 s2.1).bind fun x4 =>
          (ref04_without (mx (n + 1) (n + 1) f) (0 : Int) s2.1).bind fun x5 =>
          (ref04_Determinant_n k x5).bind fun x6 =>
          (base_GMul x4 x6).bind fun x7 =>
          (base_Mod s2.1 (2 : Int)).bind fun x8 =>
          (bif decide (x8 = 0) then
              (base_GAdd (s2.2.1, s2.2.2, ()) x7).bind fun x9 =>
              some (x9.1, x9.2.1)
            else
              (base_GSub (s2.2.1, s2.2.2, ()) x7).bind fun x10 =>
              some (x10.1, x10.2.1)).bind fun (p11 : (Int × Int)) =>
          some (.inl (w64 (s2.1 + 1), p11.1, p11.2))
        else
          some (.inr (s2.2.1, s2.2.2))) (0, 0, 0)).bind fun (p12 : (Int × Int)) =>
      some (p12.1, p12.2, ())) := rfl
    rw [hunf, mx_len]
    have e0 : decide (((n + 1 : Nat) : Int) = 0) = false := decide_eq_false (by omega)
    rw [e0, cond_false]
    have htb : ∀ j, j < n + 1 → Bd (2 * (B * dB B n)) (gmul (f 0 j) (detF n (minor f 0 j))) := fun j hj => (hf 0 j (by omega) hj).mul (detF_bd hB0 n _ (minor_bd hf))
    rw [sum_loop (n + 1) (by omega) h0 hb (fun j => if j % 2 = 1 then gneg (gmul (f 0 j) (detF n (minor f 0 j))) else gmul (f 0 j) (detF n (minor f 0 j)))
      (fun j hj => by split; · exact (htb j hj).neg
                      · exact htb j hj) (fun j hj x y hxy => ?_) (fun x y => ?_)]
    · rfl
    · have e1 : decide ((j : Int) < ((n + 1 : Nat) : Int)) = true := decide_eq_true (by omega)
      simp only [e1, cond_true]
      rw [idx_zero, mx_at f (by omega)]
      simp only [Option.bind_some]
      rw [idx_of (mkL_get (fun k => f 0 k) hj)]
      simp only [Option.bind_some]
      rw [refWithout_ok (by omega) f hj]
      simp only [Option.bind_some]
      rw [refDet_ok hB k n _ (by omega) (by omega) (minor_bd hf) hDn]
      simp only [Option.bind_some]
      rw [GMul_ok (hf 0 j (by omega) hj) (detF_bd hB0 n _ (minor_bd (r := 0) (c := j) hf)) hb1]
      simp only [Option.bind_some]
      rw [Mod2_ok j (by omega)]
      simp only [Option.bind_some]
      by_cases hp : j % 2 = 1
      · have e2 : decide (((j % 2 : Nat) : Int) = 0) = false := decide_eq_false (by omega)
        rw [e2, cond_false, if_pos hp]
        have hm : base_GSub (x, y, ()) (gmul (f 0 j) (detF n (minor f 0 j))) = some (gadd (x, y, ()) (gneg (gmul (f 0 j) (detF n (minor f 0 j))))) := by
          have := sub_w hxy (htb j hj) (le_next h0 hj hb)
          rw [gsub_eq] at this
          exact congrArg some this
        rw [hm]
        rfl
      · have e2 : decide (((j % 2 : Nat) : Int) = 0) = true := decide_eq_true (by omega)
        rw [e2, cond_true, if_neg hp]
        rw [GAdd_ok hxy (htb j hj) (le_next h0 hj hb)]
        rfl
    · have e1 : decide (((n + 1 : Nat) : Int) < ((n + 1 : Nat) : Int)) = false := by simp
      simp only [e1, cond_false]
end Go.Proofs.Ytbcdgfgacigaoaa.Mat
end
section
/-
  THE DETERMINANT OF A PRODUCT (at most three rows).
-/
set_option linter.unusedVariables false
set_option maxRecDepth 1000000
namespace Go.Tx
open Go
def dd (a b c d e f g h i : G) : G := gadd (gsub (gmul a (gsub (gmul e i) (gmul f h))) (gmul b (gsub (gmul d i) (gmul f g)))) (gmul c (gsub (gmul d h) (gmul e g)))
theorem det1_eq (f : Nat → Nat → G) : detF 1 f = f 0 0 := by
  simp only [detF, sumG]
  exact gext (by simp [gmul, g1, g0, gadd]) (by simp [gmul, g1, g0, gadd])
theorem det2_eq (f : Nat → Nat → G) : detF 2 f = gsub (gmul (f 0 0) (f 1 1)) (gmul (f 0 1) (f 1 0)) := by
  have e0 : detF 1 (minor f 0 0) = f 1 1 := by rw [det1_eq]; rfl
  have e1 : detF 1 (minor f 0 1) = f 1 0 := by rw [det1_eq]; rfl
  have e : detF 2 f = gadd (gadd g0 (gmul (f 0 0) (detF 1 (minor f 0 0)))) (gneg (gmul (f 0 1) (detF 1 (minor f 0 1)))) := rfl
  rw [e, e0, e1, gzero_add, ← gsub_eq]
theorem det3_eq (f : Nat → Nat → G) : detF 3 f = dd (f 0 0) (f 0 1) (f 0 2) (f 1 0) (f 1 1) (f 1 2) (f 2 0) (f 2 1) (f 2 2) := by
  have e0 : detF 2 (minor f 0 0) = gsub (gmul (f 1 1) (f 2 2)) (gmul (f 1 2) (f 2 1)) := by rw [det2_eq]; rfl
  have e1 : detF 2 (minor f 0 1) = gsub (gmul (f 1 0) (f 2 2)) (gmul (f 1 2) (f 2 0)) := by rw [det2_eq]; rfl
  have e2 : detF 2 (minor f 0 2) = gsub (gmul (f 1 0) (f 2 1)) (gmul (f 1 1) (f 2 0)) := by rw [det2_eq]; rfl
  have e : detF 3 f = gadd (gadd (gadd g0 (gmul (f 0 0) (detF 2 (minor f 0 0)))) (gneg (gmul (f 0 1) (detF 2 (minor f 0 1))))) (gmul (f 0 2) (detF 2 (minor f 0 2))) := rfl
  rw [e, e0, e1, e2, gzero_add, ← gsub_eq]
  rfl
theorem prod1 (f h : Nat → Nat → G) (i k : Nat) : prodF 1 f h i k = gmul (f i 0) (h 0 k) := by simp only [prodF, sumG, gzero_add]
theorem prod2 (f h : Nat → Nat → G) (i k : Nat) : prodF 2 f h i k = gadd (gmul (f i 0) (h 0 k)) (gmul (f i 1) (h 1 k)) := by simp only [prodF, sumG, gzero_add]
theorem prod3 (f h : Nat → Nat → G) (i k : Nat) : prodF 3 f h i k = gadd (gadd (gmul (f i 0) (h 0 k)) (gmul (f i 1) (h 1 k))) (gmul (f i 2) (h 2 k)) := by simp only [prodF, sumG, gzero_add]
set_option maxHeartbeats 40000000 in
theorem dd_mul1 (a b c d e f g h i A B C D E F G' H I : G) :
    (dd (gadd (gadd (gmul a A) (gmul b D)) (gmul c G')) (gadd (gadd (gmul a B) (gmul b E)) (gmul c H)) (gadd (gadd (gmul a C) (gmul b F)) (gmul c I))
      (gadd (gadd (gmul d A) (gmul e D)) (gmul f G')) (gadd (gadd (gmul d B) (gmul e E)) (gmul f H)) (gadd (gadd (gmul d C) (gmul e F)) (gmul f I))
      (gadd (gadd (gmul g A) (gmul h D)) (gmul i G')) (gadd (gadd (gmul g B) (gmul h E)) (gmul i H)) (gadd (gadd (gmul g C) (gmul h F)) (gmul i I))).1 = (gmul (dd a b c d e f g h i) (dd A B C D E F G' H I)).1 := by
  obtain ⟨a1, a2, _⟩ := a; obtain ⟨b1, b2, _⟩ := b; obtain ⟨c1, c2, _⟩ := c; obtain ⟨d1, d2, _⟩ := d; obtain ⟨e1, e2, _⟩ := e; obtain ⟨f1, f2, _⟩ := f; obtain ⟨x1, x2, _⟩ := g; obtain ⟨h1, h2, _⟩ := h; obtain ⟨i1, i2, _⟩ := i
  obtain ⟨A1, A2, _⟩ := A; obtain ⟨B1, B2, _⟩ := B; obtain ⟨C1, C2, _⟩ := C; obtain ⟨D1, D2, _⟩ := D; obtain ⟨E1, E2, _⟩ := E; obtain ⟨F1, F2, _⟩ := F; obtain ⟨X1, X2, _⟩ := G'; obtain ⟨H1, H2, _⟩ := H; obtain ⟨I1, I2, _⟩ := I
  simp only [dd, gadd, gsub, gmul]
  grind (ringSteps := 1000000)
set_option maxHeartbeats 40000000 in
theorem dd_mul2 (a b c d e f g h i A B C D E F G' H I : G) :
    (dd (gadd (gadd (gmul a A) (gmul b D)) (gmul c G')) (gadd (gadd (gmul a B) (gmul b E)) (gmul c H)) (gadd (gadd (gmul a C) (gmul b F)) (gmul c I))
      (gadd (gadd (gmul d A) (gmul e D)) (gmul f G')) (gadd (gadd (gmul d B) (gmul e E)) (gmul f H)) (gadd (gadd (gmul d C) (gmul e F)) (gmul f I))
      (gadd (gadd (gmul g A) (gmul h D)) (gmul i G')) (gadd (gadd (gmul g B) (gmul h E)) (gmul i H)) (gadd (gadd (gmul g C) (gmul h F)) (gmul i I))).2.1 = (gmul (dd a b c d e f g h i) (dd A B C D E F G' H I)).2.1 := by
  obtain ⟨a1, a2, _⟩ := a; obtain ⟨b1, b2, _⟩ := b; obtain ⟨c1, c2, _⟩ := c; obtain ⟨d1, d2, _⟩ := d; obtain ⟨e1, e2, _⟩ := e; obtain ⟨f1, f2, _⟩ := f; obtain ⟨x1, x2, _⟩ := g; obtain ⟨h1, h2, _⟩ := h; obtain ⟨i1, i2, _⟩ := i
  obtain ⟨A1, A2, _⟩ := A; obtain ⟨B1, B2, _⟩ := B; obtain ⟨C1, C2, _⟩ := C; obtain ⟨D1, D2, _⟩ := D; obtain ⟨E1, E2, _⟩ := E; obtain ⟨F1, F2, _⟩ := F; obtain ⟨X1, X2, _⟩ := G'; obtain ⟨H1, H2, _⟩ := H; obtain ⟨I1, I2, _⟩ := I
  simp only [dd, gadd, gsub, gmul]
  grind (ringSteps := 1000000)
theorem det_mul {n : Nat} (hn : n ≤ 3) (f h : Nat → Nat → G) : detF n (prodF n f h) = gmul (detF n f) (detF n h) := by
  match n, hn with
  | 0, _ => exact (gone_mul g1).symm
  | 1, _ => rw [det1_eq, det1_eq, det1_eq, prod1]
  | 2, _ =>
    rw [det2_eq, det2_eq, det2_eq]
    simp only [prod2]
    generalize f 0 0 = a; generalize f 0 1 = b; generalize f 1 0 = c; generalize f 1 1 = d
    generalize h 0 0 = p; generalize h 0 1 = q; generalize h 1 0 = r; generalize h 1 1 = s
    refine gext ?_ ?_
    · simp only [gadd, gsub, gmul]; grind
    · simp only [gadd, gsub, gmul]; grind
  | 3, _ =>
    rw [det3_eq, det3_eq, det3_eq]
    simp only [prod3]
    exact gext (dd_mul1 ..) (dd_mul2 ..)
end Go.Tx
end
section
/-
  THE LAW OF MATRICES.
-/
set_option linter.unusedVariables false
set_option linter.unusedSimpArgs false
namespace Go.Proofs.Ytbcdgfgacigaoaa.Mat
open Go Go.Ab Go.Tx Go.Proofs.Ytbcdgfgacigaoaa

theorem CopyGausses_ok {l : List G} (h : l.length ≤ 1000000000) : base_CopyGausses l = some l := by
  unfold base_CopyGausses; rw [app_nil (by omega)]; rfl
theorem CopyMatrix_ok {m : Mx} (h : m.length ≤ 1000000000) (hr : ∀ r ∈ m, r.length ≤ 1000000000) : ref04_CopyMatrix m = some m := by
  unfold ref04_CopyMatrix
  rw [for_map m (fun r => r) (fun i a out hi ho => ?_) (fun out ho => ?_)]
  · simp
  · have hlt := len_lt hi
    have e0 : decide ((i : Int) < (m.length : Int)) = true := decide_eq_true (by omega)
    simp only [e0, cond_true, idx_of hi, Option.bind_some]
    rw [CopyGausses_ok (hr a (List.mem_of_getElem? hi))]
    simp only [Option.bind_some]
    rw [app_one (by omega)]
    simp only [Option.bind_some]
    rw [wid (by omega) (by omega)]
  · have e0 : decide ((m.length : Int) < (m.length : Int)) = false := by simp
    simp only [e0, cond_false]
theorem geq_dec (a b : G) : (bif decide (a.1 = b.1) then (bif decide (a.2.1 = b.2.1) then true else false) else false) = decide (a = b) := by
  rw [Bool.eq_iff_iff]
  rw [decide_eq_true_iff, gext_iff]
  by_cases h1 : a.1 = b.1 <;> by_cases h2 : a.2.1 = b.2.1 <;> simp [h1, h2]
theorem Gausses_ok {l m : List G} (hl : l.length ≤ 1000000000) : base_Gausses l m = some (decide (l = m)) := by
  unfold base_Gausses
  by_cases h : l.length = m.length
  case neg =>
    have d : decide ((l.length : Int) = (m.length : Int)) = false := decide_eq_false (by omega)
    rw [d]
    have : decide (l = m) = false := decide_eq_false (fun e => h (by rw [e]))
    rw [this]; rfl
  have d : decide ((l.length : Int) = (m.length : Int)) = true := decide_eq_true (by omega)
  rw [d]
  simp only [Bool.not_true, cond_false]
  refine ints_loop g0 h hl (fun a b => decide (a = b)) (fun a b _ _ => by simp) (K := _) (fun i hi => ?_)
  rw [idx_in g0 (by omega) (by omega), idx_in g0 (l := m) (by omega) (by omega)]
  simp only [Option.bind_some, Int.toNat_natCast]
  rw [geq_dec, wid (by omega) (by omega)]
  by_cases c : l.getD i g0 = m.getD i g0
  · simp only [c, decide_true, Bool.not_true, cond_false, if_true]
  · simp only [c, decide_false, Bool.not_false, cond_true, Bool.false_eq_true, if_false]
theorem SameMatrix_ok {l m : Mx} (hl : l.length ≤ 1000000000) (hr : ∀ r ∈ l, r.length ≤ 1000000000) : ref04_SameMatrix l m = some (decide (l = m)) := by
  unfold ref04_SameMatrix
  by_cases h : l.length = m.length
  case neg =>
    have d : decide ((l.length : Int) = (m.length : Int)) = false := decide_eq_false (by omega)
    rw [d]
    have : decide (l = m) = false := decide_eq_false (fun e => h (by rw [e]))
    rw [this]; rfl
  have d : decide ((l.length : Int) = (m.length : Int)) = true := decide_eq_true (by omega)
  rw [d]
  simp only [Bool.not_true, cond_false]
  refine ints_loop [] h hl (fun a b => decide (a = b)) (fun a b _ _ => by simp) (K := _) (fun i hi => ?_)
  rw [idx_in [] (by omega) (by omega), idx_in [] (l := m) (by omega) (by omega)]
  simp only [Option.bind_some, Int.toNat_natCast]
  rw [Gausses_ok (hr _ (getD_mem hi)), wid (by omega) (by omega)]
  simp only [Option.bind_some]
  by_cases c : l.getD i [] = m.getD i []
  · simp only [c, decide_true, Bool.not_true, cond_false, if_true]
  · simp only [c, decide_false, Bool.not_false, cond_true, Bool.false_eq_true, if_false]
/-- few rows, few numbers -/
def FewM (m : Mx) (rows : Nat) : Prop := m.length ≤ rows ∧ ∀ r ∈ m, r.length ≤ 5
theorem fewOf_ok (m : Mx) (rows : Nat) (h : rows ≤ 1000) : Ok (law04_fewOf m (rows : Int)) fun b => b = true → FewM m rows := by
  unfold law04_fewOf
  by_cases hl : m.length ≤ rows
  case neg =>
    have d : decide ((m.length : Int) > (rows : Int)) = true := decide_eq_true (by omega)
    rw [d, cond_true]; exact ok_some.2 (by simp)
  have d : decide ((m.length : Int) > (rows : Int)) = false := decide_eq_false (by omega)
  rw [d, cond_false, for_find m _ (fun _ r => if r.length ≤ 5 then none else some false) (fun i a hi => ?_), elim_toSum]
  · cases hf : findI (fun _ (r : List G) => if r.length ≤ 5 then none else some false) 0 m with
    | none =>
      rw [findI_none] at hf
      refine ok_some.2 fun _ => ⟨hl, fun r hr => ?_⟩
      obtain ⟨i, hi⟩ := List.mem_iff_getElem?.1 hr
      have := hf i r hi
      simpa using this
    | some r =>
      obtain ⟨i, a, _, h2, _⟩ := findI_some hf
      refine ok_some.2 fun h3 => ?_
      subst h3
      split at h2 <;> cases h2
  · have hlt := len_lt hi
    rw [idx_of hi, wid (by omega) (by omega)]
    simp only [Option.bind_some]
    by_cases c : a.length ≤ 5
    · have d : decide ((a.length : Int) > 5) = false := decide_eq_false (by omega)
      simp only [d, cond_false, c, if_true, stp]
    · have d : decide ((a.length : Int) > 5) = true := decide_eq_true (by omega)
      simp only [d, cond_true, c, if_false, stp]
theorem few_ok (m : Mx) : Ok (law04_few m) fun b => b = true → FewM m 5 := by
  unfold law04_few
  exact Ok.bind (fewOf_ok m 5 (by omega)) fun b hb => ok_some.2 hb
/-- the determinant of a valid matrix -/
theorem detOf_ok {m : Mx} (h : m.length ≤ 1000000000) (hr : ∀ r ∈ m, r.length ≤ 1000000000) : drive_DeterminantOf m = some (if matE m = 0 then detF m.length (ent m) else g0, matE m) := by
  unfold drive_DeterminantOf
  rw [matrixErr_ok h hr]
  simp only [Option.bind_some]
  by_cases hE : matE m = 0
  · obtain ⟨h1, h3, hR, hB⟩ := mat_ok hE
    have d : decide (matE m = 0) = true := decide_eq_true hE
    rw [d, Bool.not_true, cond_false, if_pos hE]
    unfold drive_matrix_determinant
    have hm := rect_mx hR
    have hb3 : ∀ k, k ≤ 3 → dB 20 k ≤ 9000000000000000000 := fun k hk => by
      match k, hk with
      | 0, _ => decide
      | 1, _ => decide
      | 2, _ => decide
      | 3, _ => decide
    conv => lhs; rw [hm]
    rw [det_ok (B := 20) (by omega) 12 m.length (ent m) (by omega) (by omega) (bdM_ent hB hR) (hb3 _ h3), Option.bind_some, hE]
  · have d : decide (matE m = 0) = false := decide_eq_false hE
    rw [d, Bool.not_false, cond_true, if_neg hE]; rfl
theorem refDeterminant_ok {m : Mx} (hE : matE m = 0) : ref04_Determinant m = some (detF m.length (ent m)) := by
  obtain ⟨h1, h3, hR, hB⟩ := mat_ok hE
  unfold ref04_Determinant
  have hm := rect_mx hR
  have hb3 : ∀ k, k ≤ 3 → dB 20 k ≤ 9000000000000000000 := fun k hk => by
    match k, hk with
    | 0, _ => decide
    | 1, _ => decide
    | 2, _ => decide
    | 3, _ => decide
  conv => lhs; rw [hm]
  rw [refDet_ok (B := 20) (by omega) 12 m.length (ent m) (by omega) (by omega) (bdM_ent hB hR) (hb3 _ h3)]
/-- the error of two matrices -/
def pairE (a b : Mx) : Int := if matE a ≠ 0 then matE a else if matE b ≠ 0 then matE b else if a.length = b.length then 0 else 13
theorem pair_ok {a b : Mx} (h0 : pairE a b = 0) : matE a = 0 ∧ matE b = 0 ∧ a.length = b.length := by
  unfold pairE at h0
  by_cases h1 : matE a = 0
  · rw [if_neg (by simpa using h1)] at h0
    by_cases h2 : matE b = 0
    · rw [if_neg (by simpa using h2)] at h0
      by_cases h : a.length = b.length
      · exact ⟨h1, h2, h⟩
      · rw [if_neg h] at h0; cases h0
    · rw [if_pos h2] at h0; exact absurd h0 h2
  · rw [if_pos h1] at h0; exact absurd h0 h1
def prodL (a b : Mx) : Mx := mx a.length a.length (prodF a.length (ent a) (ent b))
theorem prodOf_ok {a b : Mx} (ha : a.length ≤ 1000000000) (har : ∀ r ∈ a, r.length ≤ 1000000000) (hb : b.length ≤ 1000000000) (hbr : ∀ r ∈ b, r.length ≤ 1000000000) :
    drive_ProductOf a b = some (if pairE a b = 0 then prodL a b else [], pairE a b) := by
  unfold drive_ProductOf
  rw [matrixErr_ok ha har, matrixErr_ok hb hbr]
  simp only [unless_eq, Option.bind_some]
  rw [first_eq _ (by simp)]
  simp only [Option.bind_some]
  have hfst : fst0 [matE a, matE b, if decide ((a.length : Int) = (b.length : Int)) = true then 0 else 13] = pairE a b := by
    unfold pairE
    by_cases h1 : matE a = 0
    · by_cases h2 : matE b = 0
      · by_cases h3 : a.length = b.length
        · have d : decide ((a.length : Int) = (b.length : Int)) = true := decide_eq_true (by omega)
          simp [fst0, h1, h2, h3]
        · have d : ¬ ((a.length : Int) = (b.length : Int)) := by omega
          simp [fst0, h1, h2, h3, d]
      · simp [fst0, h1, h2]
    · simp [fst0, h1]
  rw [hfst]
  by_cases h0 : pairE a b = 0
  · have d : decide (pairE a b = 0) = true := decide_eq_true h0
    rw [d, Bool.not_true, cond_false, if_pos h0]
    obtain ⟨hEa, hEb, hl⟩ := pair_ok h0
    obtain ⟨a1, a3, aR, aB⟩ := mat_ok hEa
    obtain ⟨b1, b3, bR, bB⟩ := mat_ok hEb
    rw [← hl] at bR
    have e1 := rect_mx aR
    have e2 := rect_mx bR
    conv => lhs; rw [e1, e2]
    rw [times_ok (A := 20) (B := 20) (by omega) (by omega) (bdM_ent aB aR) (bdM_ent bB bR) (by omega) (by omega) (by omega) (by omega) (by omega)]
    rw [h0]; rfl
  · have d : decide (pairE a b = 0) = false := decide_eq_false h0
    rw [d, Bool.not_false, cond_true, if_neg h0]
theorem refProd_ok {a b : Mx} (h0 : pairE a b = 0) : ref04_Product a b = some (prodL a b) := by
  obtain ⟨hEa, hEb, hl⟩ := pair_ok h0
  obtain ⟨a1, a3, aR, aB⟩ := mat_ok hEa
  obtain ⟨b1, b3, bR, bB⟩ := mat_ok hEb
  rw [← hl] at bR
  have e1 := rect_mx aR
  have e2 := rect_mx bR
  conv => lhs; rw [e1, e2]
  rw [Product_ok (A := 20) (B := 20) (by omega) (by omega) (bdM_ent aB aR) (bdM_ent bB bR) (by omega) (by omega) (by omega) (by omega) (by omega)]
  rfl
theorem det_prodL {a b : Mx} (h0 : pairE a b = 0) : detF (prodL a b).length (ent (prodL a b)) = gmul (detF a.length (ent a)) (detF b.length (ent b)) := by
  obtain ⟨hEa, hEb, hl⟩ := pair_ok h0
  obtain ⟨a1, a3, aR, aB⟩ := mat_ok hEa
  have hlen : (prodL a b).length = a.length := mx_len _ _ _
  rw [hlen, ← hl, ← det_mul a3]
  exact detF_congr _ fun i k hi hk => ent_mx _ hi hk
theorem DriveMatrices_eq (a b : Mx) : law04_DriveMatrices a b = some true := by
  unfold law04_DriveMatrices
  rw [show law04_awake = some true from rfl, Option.bind_some, Bool.not_true, cond_false]
  refine Ok.eq ?_
  rw [ok_bind]
  refine Ok.mono (P := fun r : Bool => r = false → FewM a 5 ∧ FewM b 5) ?_ fun r hr => ?_
  · refine Ok.bind (few_ok a) fun x hx => ?_
    cases x with
    | false => exact ok_some.2 (by simp)
    | true =>
      rw [Bool.not_true, cond_false]
      refine Ok.bind (few_ok b) fun y hy => ok_some.2 fun h => ⟨hx rfl, hy (by simpa using h)⟩
  cases r with
  | true => exact ok_some.2 rfl
  | false =>
  obtain ⟨⟨ha5, har⟩, ⟨hb5, hbr⟩⟩ := hr rfl
  rw [cond_false]
  have ha : a.length ≤ 1000000000 := by omega
  have hb : b.length ≤ 1000000000 := by omega
  have har' : ∀ r ∈ a, r.length ≤ 1000000000 := fun r h => by have := har r h; omega
  have hbr' : ∀ r ∈ b, r.length ≤ 1000000000 := fun r h => by have := hbr r h; omega
  have hgz : ∀ z : G, (bif decide (z.1 = 0) then (bif decide (z.2.1 = 0) then true else false) else false) = decide (z = g0) := fun z => geq_dec z g0
  simp only [CopyMatrix_ok ha har', CopyMatrix_ok hb hbr', CheckMatrix_ok ha har', prodOf_ok ha har' hb hbr', detOf_ok ha har', refCheckMatrix_ok ha har', Option.bind_some, decide_true, Bool.not_true, cond_false]
  have hce : (chkM a).2 = matE a := rfl
  rw [hce]
  have hmid : ∀ K : Int → Option Bool, ((bif decide (matE a = 0) then (ref04_MatrixErr b).bind fun x19 => some x19 else some (matE a)).bind fun p20 =>
          (bif decide (p20 = 0) then some (!decide ((a.length : Int) = (b.length : Int))) else some false).bind fun p21 =>
            (bif p21 then some 13 else some p20).bind K) = K (pairE a b) := by
    intro K
    rw [MatrixErr_ok hb hbr']
    unfold pairE
    by_cases h1 : matE a = 0
    · rw [if_neg (by simpa using h1), decide_eq_true h1]
      by_cases h2 : matE b = 0
      · rw [if_neg (by simpa using h2)]
        by_cases h3 : a.length = b.length
        · rw [if_pos h3, decide_eq_true (show (a.length : Int) = (b.length : Int) by omega)]
          simp only [cond_true, Option.bind_some, h2, decide_true, Bool.not_true, cond_false]
        · rw [if_neg h3, decide_eq_false (show ¬ (a.length : Int) = (b.length : Int) by omega)]
          simp only [cond_true, Option.bind_some, h2, decide_true, Bool.not_false]
      · rw [if_pos h2]
        simp only [cond_true, Option.bind_some, decide_eq_false h2, cond_false]
    · rw [if_pos h1]
      simp only [decide_eq_false h1, cond_false, Option.bind_some]
  have hfirst : ∀ K : Bool → Option Bool, (bif !decide (matE a = 0) then
          bif !decide (matE a = matE a) then some true
          else
            bif !(bif decide ((if matE a = 0 then detF a.length (ent a) else g0).1 = 0) then (bif decide ((if matE a = 0 then detF a.length (ent a) else g0).2.1 = 0) then true else false) else false) then some true
            else
              bif decide (matE a = 0) then
                bif !decide (matE a = 0) then some true
                else
                  (ref04_Determinant a).bind fun x14 =>
                    some (!(bif decide ((if matE a = 0 then detF a.length (ent a) else g0).1 = x14.1) then (bif decide ((if matE a = 0 then detF a.length (ent a) else g0).2.1 = x14.2.1) then true else false) else false))
              else some false
        else
          bif decide (matE a = 0) then
            bif !decide (matE a = 0) then some true
            else
              (ref04_Determinant a).bind fun x14 =>
                some (!(bif decide ((if matE a = 0 then detF a.length (ent a) else g0).1 = x14.1) then (bif decide ((if matE a = 0 then detF a.length (ent a) else g0).2.1 = x14.2.1) then true else false) else false))
          else some false).bind K = K false := by
    intro K
    by_cases hE : matE a = 0
    · rw [if_pos hE, refDeterminant_ok hE]
      simp only [hE, decide_true, Bool.not_true, cond_false, cond_true, Option.bind_some]
    · rw [if_neg hE]
      have e1 : decide (g0.1 = 0) = true := rfl
      have e2 : decide (g0.2.1 = 0) = true := rfl
      simp only [decide_eq_false hE, decide_true, Bool.not_true, Bool.not_false, cond_false, cond_true, Option.bind_some, e1, e2]
  rw [hfirst, cond_false, hmid]
  by_cases hp : pairE a b = 0
  case neg =>
    simp only [if_neg hp, decide_eq_false hp, Bool.not_false, cond_true, decide_true, Option.bind_some, List.length_nil, Int.ofNat_eq_natCast, Int.natCast_zero]
    exact ok_some.2 (by simp)
  obtain ⟨hEa, hEb, hl⟩ := pair_ok hp
  obtain ⟨a1, a3, aR, aB⟩ := mat_ok hEa
  obtain ⟨b1, b3, bR, bB⟩ := mat_ok hEb
  have hPl : (prodL a b).length = a.length := mx_len _ _ _
  have hPr : ∀ r ∈ prodL a b, r.length = a.length := (mx_rect _ _ _).2
  have hP1 : (prodL a b).length ≤ 1000000000 := by omega
  have hP2 : ∀ r ∈ prodL a b, r.length ≤ 1000000000 := fun r h => by rw [hPr r h]; omega
  simp only [if_pos hp, hp, decide_true, Bool.not_true, cond_false, refProd_ok hp, SameMatrix_ok hP1 hP2, MatrixErr_ok hP1 hP2, detOf_ok hb hbr', detOf_ok hP1 hP2, if_pos hEa, if_pos hEb, hEa, hEb, if_true, Option.bind_some]
  by_cases hEp : matE (prodL a b) = 0
  case neg =>
    simp only [decide_eq_false hEp, Bool.not_false, cond_true]
    exact ok_some.2 rfl
  simp only [decide_eq_true hEp, Bool.not_true, cond_false, if_pos hEp, cond_true]
  have hb3 : ∀ k, k ≤ 3 → dB 20 k ≤ 400000 := fun k hk => by
    match k, hk with
    | 0, _ => decide
    | 1, _ => decide
    | 2, _ => decide
    | 3, _ => decide
  have h1 := (detF_bd (B := 20) (by omega) a.length (ent a) (bdM_ent aB aR)).mono (hb3 _ a3)
  have h2 := (detF_bd (B := 20) (by omega) b.length (ent b) (bdM_ent bB bR)).mono (hb3 _ b3)
  rw [GMul_ok h1 h2 (by omega)]
  simp only [Option.bind_some]
  rw [det_prodL hp, geq_dec]
  exact ok_some.2 (by simp)
end Go.Proofs.Ytbcdgfgacigaoaa.Mat
namespace Go.Proofs.Ytbcdgfgacigaoaa
open Go Go.Ab Go.Tx
theorem law04_DriveMatrices_true : ∀ x : denP ([Ty.sl (.sl (.pair I (.pair I .unit))), .sl (.sl (.pair I (.pair I .unit)))].map .ty), RngP maxLen [.sl (.sl (.pair I (.pair I .unit))), .sl (.sl (.pair I (.pair I .unit)))] x → e_law04_DriveMatrices.F x = some true := by
  rintro ⟨a0, a1⟩ _
  exact Mat.DriveMatrices_eq a0 a1
end Go.Proofs.Ytbcdgfgacigaoaa
end
section
/-
  THE LAW DriveMatrices.
-/
namespace Go.Proofs.Ytbcdgfgacigaoaa.driveMatrices
open Go Go.Ab Go.Tx Go.ChangeShapes Go.WideShapes Go.ChangeAt Go.RowKit
set_option linter.unusedVariables false
theorem hlib : ∀ g h args r, Lb g = some h → h args = some r → CallOk Try.prog g args [] r [] := fun g h args r hg hr => by
  unfold Lb at hg
  split at hg
  · rename_i e
    subst e
    cases hg
    cases args with
    | nil => cases hr; exact awake_ok
    | cons a l => cases hr
  · cases hg
set_option maxRecDepth 100000 in
theorem contract (H : Type) (enc : TypeId × Value → H) (W : World) (base : Nat) (args : Array Value) (ds gs : List (DataW H)) (before : List MemPlace)
    (hval : ∀ (j : Nat) t v, Try.f5.params[j]? = some t → args[j]? = some v → Value.okWide Try.prog W .any base t v)
    (hW : DataW.Whole enc Try.prog Try.f5.params.toList Rows.driveMatricesSpec.vars false W args.toList ds gs before) :
    Calls Try.prog 5 args W fun e W' => ∃ v, e = .returned v ∧ Rows.driveMatricesSpec.post enc Try.prog Try.f5 false true false false W args v W' :=
  law_contract (τs := [(.sl (.sl (.pair I (.pair I .unit)))), (.sl (.sl (.pair I (.pair I .unit))))]) (ts := [40, 40]) (tb := 4) (F := e_law04_DriveMatrices.F) follows hname hlib laid_out Try.func5 (by kernel_rfl) (by kernel_rfl) (by kernel_rfl) (by kernel_rfl) (by kernel_rfl) (by kernel_rfl) Try.underlying4 o_law04_DriveMatrices law04_DriveMatrices_true rfl
    (fun H ds h => by
      match ds, h with
      | [d1, d2], _ => rfl) H enc W base args ds gs before hval hW
set_option maxRecDepth 100000 in
theorem lifted (os : Os) (started : os.Started) (H : Type) (enc : TypeId × Value → H) :
    ReturnsInHanded {} Try.checked os 5 .any (Rows.driveMatricesSpec.pre6 enc Try.prog Try.f5 Rows.driveMatricesRow.domain false) (Rows.driveMatricesSpec.post enc Try.prog Try.f5 false true false false) := by
  refine returnsInHanded_of_change (C := Try.checked) own started (by kernel_rfl) Try.func5
    (ChangeSpec.witness6 (enc := enc) (C := Try.checked) false ⟨#[], #[.slice none 0 0, .slice none 0 0], []⟩ 8 (by kernel_rfl) (by kernel_rfl) (by kernel_rfl) (by kernel_rfl)) ?_
  intro W base args ds gs before hval hW _ _
  exact contract H enc W base args ds gs before hval hW
theorem proved : Rows.DriveMatricesSaid :=
  OpenClaim.holds_of_wide 5 Try.f5 rfl rfl rfl rfl rfl rfl rfl ⟨rfl, rfl, rfl, rfl, rfl⟩ rfl rfl rfl rfl rfl (by kernel_rfl) Try.func5 (by kernel_rfl)
    (of_decide_eq_true (by kernel_rfl)) (by unfold Func.isWrapper; first | (rw [if_pos (by decide +kernel)]; kernel_rfl) | (rw [if_neg (by decide +kernel)]; exact ⟨rfl, rfl⟩))
    (fun os started H enc _ => lifted os started H enc)
end Go.Proofs.Ytbcdgfgacigaoaa.driveMatrices
end
