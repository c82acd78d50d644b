/-
  TYPED FUNCTIONS (written by gen.py), each with the equation that the kernel checks: it is what the typed interpreter computes.
-/
import Derived.Test.YtpiggpgocnlomaaTxI
import Derived.Test.YtpiggpgocnlomaaAbH
import Derived.Test.YtpiggpgocnlomaaProg
import Derived.KernelRfl
set_option maxRecDepth 100000
set_option linter.unusedVariables false
namespace Go.Proofs.Ytpiggpgocnlomaa
open Go Go.Ab Go.Tx
noncomputable section
@[reducible] def I : Ty := .int .i64
@[reducible] def w64 (n : Int) : Int := IntKind.wrap .i64 n
def lookJ : List (List Tmp × FuncId × Kind × Join) → List Tmp → FuncId → Kind → Option Join
  | [], _, _, _ => none
  | (c, f, k, j) :: l, c', f', k' => if f = f' then (if k = k' then (if c = c' then some j else lookJ l c' f' k') else lookJ l c' f' k') else lookJ l c' f' k'
def awakeId : Nat := 14
def mkTH (js : List (List Tmp × FuncId × Kind × Join)) (inl : List (List Tmp × FuncId × Tmp)) : TH where
  lib := fun g => decide (g = awakeId)
  join := lookJ js
  inl := fun c f d => inl.any fun (c', f', d') => decide (f = f') && decide (d = d') && decide (c = c')
/-- functions that are known otherwise -/
def Lb : FuncId → Option (List V → Option V) := fun g => if g = awakeId then some (fun args => match args with
    | [] => some (.val (.bool true))
    | _ => none) else none
theorem hJ {js : List (List Tmp × FuncId × Kind × Join)} {inl : List (List Tmp × FuncId × Tmp)} : ∀ g, (mkTH js inl).lib g = false → Lb g = none := fun g h => by
  simp only [mkTH, decide_eq_false_iff_not] at h
  simp [Lb, h]
def law07_awake : Option Bool := some true
def e_law07_awake : Entry := ⟨14, [], [(.bool, 0)], fun _ => law07_awake⟩
theorem o_law07_awake : EntryOk Try.prog Hn.hints Lb e_law07_awake := fun x y h vs hv => by
  obtain rfl : true = y := Option.some.inj h
  simp only [e_law07_awake, ofPms, RVL] at hv
  subst hv
  refine ⟨.val (.bool true), ⟨1, fun m hm => ?_⟩, by simp [packT, e_law07_awake, ofL, packedT, ofTy, RV, RTy]⟩
  obtain ⟨m', rfl⟩ : ∃ m', m = m' + 1 := ⟨m - 1, by omega⟩
  simp [orcN, Lb, awakeId, e_law07_awake]
/-- ductility/ductilitylaw07.images -/
def law07_images (a0 : (List (List Int))) : Option Bool :=
  (loopO (fun (s2 : Int) =>
      bif decide (s2 < (a0.length : Int)) then
        (idx a0 s2).bind fun x3 =>
        bif decide ((x3.length : Int) > 12) then
          some (.inr (.inr false))
        else
          some (.inl (w64 (s2 + 1)))
      else
        some (.inr (.inl ()))) 0).bind (Sum.elim (fun (p4 : Unit) =>
  some (decide ((a0.length : Int) ≤ 12))) some)
def e_law07_images : Entry := ⟨24, [.ty (.sl (.sl I))], [(.bool, 0)], fun x => law07_images x⟩
def j_law07_images : TH := mkTH [([], 24, .block 0, { lv := [], ps := [], abn := true, D := ⟨65532⟩ }),
  ([], 24, .loop 0, { lv := [⟨none, 3, 0⟩], ps := [(I, 0)], D := ⟨65532⟩ })] []
theorem k_law07_images (x : denP e_law07_images.ps) : fnT Try.prog Hn.hints j_law07_images (tabT []) 40 24 (ofPms e_law07_images.ps x) e_law07_images.rs = e_law07_images.F x := by kernel_rfl
theorem o_law07_images : EntryOk Try.prog Hn.hints Lb e_law07_images := entry_ok tab_nil hJ 40 _ _ _ _ k_law07_images
/-- ductility/ductilitybase.Within -/
def base_Within (a0 : Int) (a1 : Int) (a2 : Int) : Option Bool :=
  (bif decide (a1 ≤ a0) then
      some (decide (a0 ≤ a2))
    else
      some false).bind fun (p1 : Bool) =>
  some p1
def e_base_Within : Entry := ⟨20, [.ty I, .ty I, .ty I], [(.bool, 0)], fun x => base_Within x.1 x.2.1 x.2.2⟩
def j_base_Within : TH := mkTH [([], 20, .region 1, { lv := [⟨none, 6, 0⟩], ps := [(.bool, 0)], D := ⟨32704⟩ })] []
theorem k_base_Within (x : denP e_base_Within.ps) : fnT Try.prog Hn.hints j_base_Within (tabT []) 40 20 (ofPms e_base_Within.ps x) e_base_Within.rs = e_base_Within.F x := by kernel_rfl
theorem o_base_Within : EntryOk Try.prog Hn.hints Lb e_base_Within := entry_ok tab_nil hJ 40 _ _ _ _ k_base_Within
/-- ductility/ductilityref07.ImageErr -/
def ref07_ImageErr (a0 : (List (List Int))) : Option Int :=
  (bif decide ((a0.length : Int) = 0) then
      some true
    else
      (idx a0 0).bind fun x1 =>
      some (decide ((x1.length : Int) = 0))).bind fun (p2 : Bool) =>
  bif p2 then
    some 10
  else
    (loopO (fun (s4 : Int) =>
        bif decide (s4 < (a0.length : Int)) then
          (idx a0 s4).bind fun x5 =>
          (idx a0 0).bind fun x6 =>
          bif !(decide ((x5.length : Int) = (x6.length : Int))) then
            some (.inr (.inr 10))
          else
            some (.inl (w64 (s4 + 1)))
        else
          some (.inr (.inl ()))) 0).bind (Sum.elim (fun (p7 : Unit) =>
    (bif decide ((a0.length : Int) > 10) then
        some true
      else
        (idx a0 0).bind fun x8 =>
        some (decide ((x8.length : Int) > 10))).bind fun (p9 : Bool) =>
    bif p9 then
      some 8
    else
      (loopO (fun (s11 : (Int × Int)) =>
          bif decide (s11.2 < (a0.length : Int)) then
            (loopO (fun (s13 : (Int × Int)) =>
                (idx a0 s11.2).bind fun x14 =>
                bif decide (s13.2 < (x14.length : Int)) then
                  (idx a0 s11.2).bind fun x15 =>
                  (idx x15 s13.2).bind fun x16 =>
                  (base_Within x16 (0 : Int) (255 : Int)).bind fun x17 =>
                  bif !x17 then
                    some (.inr (.inr (.inr (.inr 2))))
                  else
                    (idx a0 s11.2).bind fun x18 =>
                    (idx x18 s13.2).bind fun x19 =>
                    some (.inl (w64 (s13.1 + x19), w64 (s13.2 + 1)))
                else
                  some (.inr (.inl s13.1))) (s11.1, 0)).bind (Sum.elim (fun (p20 : Int) =>
            some (.inl (p20, w64 (s11.2 + 1)))) some)
          else
            some (.inr (.inl s11.1))) (0, 0)).bind (Sum.elim (fun (p21 : Int) =>
      bif decide (p21 = 0) then
        some 11
      else
        some 0) some)) some)
def e_ref07_ImageErr : Entry := ⟨27, [.ty (.sl (.sl I))], [(I, 0)], fun x => ref07_ImageErr x⟩
def j_ref07_ImageErr : TH := mkTH [([], 27, .region 1, { lv := [⟨none, 16, 0⟩], ps := [(.bool, 0)], D := ⟨130944⟩ }),
  ([], 27, .block 0, { lv := [], ps := [], abn := true, D := ⟨8589803532⟩ }),
  ([], 27, .loop 0, { lv := [⟨none, 3, 0⟩], ps := [(I, 0)], D := ⟨8589803532⟩ }),
  ([], 27, .region 8, { lv := [⟨none, 42, 0⟩], ps := [(.bool, 0)], D := ⟨8787503087616⟩ }),
  ([], 27, .block 2, { lv := [⟨none, 4, 0⟩], ps := [(I, 0)], abn := true, D := ⟨75557863717118230397044⟩ }),
  ([], 27, .loop 2, { lv := [⟨none, 4, 0⟩, ⟨none, 5, 0⟩], ps := [(I, 0), (I, 0)], D := ⟨75557863717118230397044⟩ }),
  ([], 27, .block 4, { lv := [⟨none, 4, 0⟩], ps := [(I, 0)], abn := true, D := ⟨75557863162964369997908⟩ }),
  ([], 27, .loop 4, { lv := [⟨none, 4, 0⟩, ⟨none, 6, 0⟩], ps := [(I, 0), (I, 0)], D := ⟨75557863162964369997908⟩ })] []
theorem k_ref07_ImageErr (x : denP e_ref07_ImageErr.ps) : fnT Try.prog Hn.hints j_ref07_ImageErr (tabT [e_base_Within]) 40 27 (ofPms e_ref07_ImageErr.ps x) e_ref07_ImageErr.rs = e_ref07_ImageErr.F x := by kernel_rfl
theorem o_ref07_ImageErr : EntryOk Try.prog Hn.hints Lb e_ref07_ImageErr := entry_ok (tab_cons o_base_Within tab_nil) hJ 40 _ _ _ _ k_ref07_ImageErr
/-- ductility/ductilitybase.CopyInts -/
def base_CopyInts (a0 : (List Int)) : Option (List Int) :=
  (app [] a0).bind fun x1 =>
  some x1
def e_base_CopyInts : Entry := ⟨36, [.ty (.sl I)], [((.sl I), 1)], fun x => base_CopyInts x⟩
def j_base_CopyInts : TH := mkTH [] []
theorem k_base_CopyInts (x : denP e_base_CopyInts.ps) : fnT Try.prog Hn.hints j_base_CopyInts (tabT []) 40 36 (ofPms e_base_CopyInts.ps x) e_base_CopyInts.rs = e_base_CopyInts.F x := by kernel_rfl
theorem o_base_CopyInts : EntryOk Try.prog Hn.hints Lb e_base_CopyInts := entry_ok tab_nil hJ 40 _ _ _ _ k_base_CopyInts
/-- ductility/ductilitybase.CopyLists -/
def base_CopyLists (a0 : (List (List Int))) : Option (List (List Int)) :=
  (loopO (fun (s3 : ((List (List Int)) × Int)) =>
      bif decide (s3.2 < (a0.length : Int)) then
        (idx a0 s3.2).bind fun x4 =>
        (base_CopyInts x4).bind fun x5 =>
        (app s3.1 ([x5])).bind fun x6 =>
        some (.inl (x6, w64 (s3.2 + 1)))
      else
        some (.inr s3.1)) ([], 0)).bind fun (p7 : (List (List Int))) =>
  some p7
def e_base_CopyLists : Entry := ⟨17, [.ty (.sl (.sl I))], [((.sl (.sl I)), 2)], fun x => base_CopyLists x⟩
def j_base_CopyLists : TH := mkTH [([], 17, .block 0, { lv := [⟨none, 3, 0⟩], ps := [((.sl (.sl I)), 2)], D := ⟨524280⟩ }),
  ([], 17, .loop 0, { lv := [⟨none, 3, 0⟩, ⟨none, 4, 0⟩], ps := [((.sl (.sl I)), 2), (I, 0)], D := ⟨524280⟩ })] []
theorem k_base_CopyLists (x : denP e_base_CopyLists.ps) : fnT Try.prog Hn.hints j_base_CopyLists (tabT [e_base_CopyInts]) 40 17 (ofPms e_base_CopyLists.ps x) e_base_CopyLists.rs = e_base_CopyLists.F x := by kernel_rfl
theorem o_base_CopyLists : EntryOk Try.prog Hn.hints Lb e_base_CopyLists := entry_ok (tab_cons o_base_CopyInts tab_nil) hJ 40 _ _ _ _ k_base_CopyLists
/-- ductility/sensor.samplesOf -/
def sensor_samplesOf (a0 : (List (List Int))) : Option Int :=
  bif decide ((a0.length : Int) = 0) then
    some 0
  else
    (idx a0 0).bind fun x1 =>
    some (x1.length : Int)
def e_sensor_samplesOf : Entry := ⟨108, [.ty (.sl (.sl I))], [(I, 0)], fun x => sensor_samplesOf x⟩
def j_sensor_samplesOf : TH := mkTH [] []
theorem k_sensor_samplesOf (x : denP e_sensor_samplesOf.ps) : fnT Try.prog Hn.hints j_sensor_samplesOf (tabT []) 40 108 (ofPms e_sensor_samplesOf.ps x) e_sensor_samplesOf.rs = e_sensor_samplesOf.F x := by kernel_rfl
theorem o_sensor_samplesOf : EntryOk Try.prog Hn.hints Lb e_sensor_samplesOf := entry_ok tab_nil hJ 40 _ _ _ _ k_sensor_samplesOf
/-- ductility/sensor.within -/
def sensor_within (a0 : Int) (a1 : Int) (a2 : Int) : Option Bool :=
  (bif decide (a1 ≤ a0) then
      some (decide (a0 ≤ a2))
    else
      some false).bind fun (p1 : Bool) =>
  some p1
def e_sensor_within : Entry := ⟨107, [.ty I, .ty I, .ty I], [(.bool, 0)], fun x => sensor_within x.1 x.2.1 x.2.2⟩
def j_sensor_within : TH := mkTH [([], 107, .region 1, { lv := [⟨none, 6, 0⟩], ps := [(.bool, 0)], D := ⟨32704⟩ })] []
theorem k_sensor_within (x : denP e_sensor_within.ps) : fnT Try.prog Hn.hints j_sensor_within (tabT []) 40 107 (ofPms e_sensor_within.ps x) e_sensor_within.rs = e_sensor_within.F x := by kernel_rfl
theorem o_sensor_within : EntryOk Try.prog Hn.hints Lb e_sensor_within := entry_ok tab_nil hJ 40 _ _ _ _ k_sensor_within
/-- ductility/sensor.imageErr$2 -/
def sensor_imageErr_2 (a0 : Int) : Option Bool :=
  (sensor_within a0 (0 : Int) (255 : Int)).bind fun x1 =>
  some (!x1)
def e_sensor_imageErr_2 : Entry := ⟨153, [.ty I], [(.bool, 0)], fun x => sensor_imageErr_2 x⟩
def j_sensor_imageErr_2 : TH := mkTH [] []
theorem k_sensor_imageErr_2 (x : denP e_sensor_imageErr_2.ps) : fnT Try.prog Hn.hints j_sensor_imageErr_2 (tabT [e_sensor_within]) 40 153 (ofPms e_sensor_imageErr_2.ps x) e_sensor_imageErr_2.rs = e_sensor_imageErr_2.F x := by kernel_rfl
theorem o_sensor_imageErr_2 : EntryOk Try.prog Hn.hints Lb e_sensor_imageErr_2 := entry_ok (tab_cons o_sensor_within tab_nil) hJ 40 _ _ _ _ k_sensor_imageErr_2
/-- slices.IndexFunc[[]int,int] -/
def slices_IndexFunc_Lint_int_of_sensor_imageErr_2 (a0 : (List Int)) : Option Int :=
  (loopO (fun (s2 : Int) =>
      bif decide (s2 < (a0.length : Int)) then
        (idx a0 s2).bind fun x3 =>
        (sensor_imageErr_2 x3).bind fun x4 =>
        bif x4 then
          some (.inr (.inr s2))
        else
          some (.inl (w64 (s2 + 1)))
      else
        some (.inr (.inl ()))) 0).bind (Sum.elim (fun (p5 : Unit) =>
  some (-1)) some)
def e_slices_IndexFunc_Lint_int_of_sensor_imageErr_2 : Entry := ⟨176, [.ty (.sl I), .fn 153 []], [(I, 0)], fun x => slices_IndexFunc_Lint_int_of_sensor_imageErr_2 x.1⟩
def j_slices_IndexFunc_Lint_int_of_sensor_imageErr_2 : TH := mkTH [([], 176, .block 0, { lv := [], ps := [], abn := true, D := ⟨524080⟩ }),
  ([], 176, .loop 0, { lv := [⟨none, 8, 0⟩], ps := [(I, 0)], D := ⟨524080⟩ })] []
theorem k_slices_IndexFunc_Lint_int_of_sensor_imageErr_2 (x : denP e_slices_IndexFunc_Lint_int_of_sensor_imageErr_2.ps) : fnT Try.prog Hn.hints j_slices_IndexFunc_Lint_int_of_sensor_imageErr_2 (tabT [e_sensor_imageErr_2]) 40 176 (ofPms e_slices_IndexFunc_Lint_int_of_sensor_imageErr_2.ps x) e_slices_IndexFunc_Lint_int_of_sensor_imageErr_2.rs = e_slices_IndexFunc_Lint_int_of_sensor_imageErr_2.F x := by kernel_rfl
theorem o_slices_IndexFunc_Lint_int_of_sensor_imageErr_2 : EntryOk Try.prog Hn.hints Lb e_slices_IndexFunc_Lint_int_of_sensor_imageErr_2 := entry_ok (tab_cons o_sensor_imageErr_2 tab_nil) hJ 40 _ _ _ _ k_slices_IndexFunc_Lint_int_of_sensor_imageErr_2
/-- slices.ContainsFunc[[]int,int] -/
def slices_ContainsFunc_Lint_int_of_sensor_imageErr_2 (a0 : (List Int)) : Option Bool :=
  (slices_IndexFunc_Lint_int_of_sensor_imageErr_2 a0).bind fun x1 =>
  some (decide (x1 ≥ 0))
def e_slices_ContainsFunc_Lint_int_of_sensor_imageErr_2 : Entry := ⟨152, [.ty (.sl I), .fn 153 []], [(.bool, 0)], fun x => slices_ContainsFunc_Lint_int_of_sensor_imageErr_2 x.1⟩
def j_slices_ContainsFunc_Lint_int_of_sensor_imageErr_2 : TH := mkTH [] []
theorem k_slices_ContainsFunc_Lint_int_of_sensor_imageErr_2 (x : denP e_slices_ContainsFunc_Lint_int_of_sensor_imageErr_2.ps) : fnT Try.prog Hn.hints j_slices_ContainsFunc_Lint_int_of_sensor_imageErr_2 (tabT [e_slices_IndexFunc_Lint_int_of_sensor_imageErr_2]) 40 152 (ofPms e_slices_ContainsFunc_Lint_int_of_sensor_imageErr_2.ps x) e_slices_ContainsFunc_Lint_int_of_sensor_imageErr_2.rs = e_slices_ContainsFunc_Lint_int_of_sensor_imageErr_2.F x := by kernel_rfl
theorem o_slices_ContainsFunc_Lint_int_of_sensor_imageErr_2 : EntryOk Try.prog Hn.hints Lb e_slices_ContainsFunc_Lint_int_of_sensor_imageErr_2 := entry_ok (tab_cons o_slices_IndexFunc_Lint_int_of_sensor_imageErr_2 tab_nil) hJ 40 _ _ _ _ k_slices_ContainsFunc_Lint_int_of_sensor_imageErr_2
/-- ductility/sensor.imageErr$3 -/
def sensor_imageErr_3 (a0 : Int) : Option Bool :=
  some (!(decide (a0 = 0)))
def e_sensor_imageErr_3 : Entry := ⟨154, [.ty I], [(.bool, 0)], fun x => sensor_imageErr_3 x⟩
def j_sensor_imageErr_3 : TH := mkTH [] []
theorem k_sensor_imageErr_3 (x : denP e_sensor_imageErr_3.ps) : fnT Try.prog Hn.hints j_sensor_imageErr_3 (tabT []) 40 154 (ofPms e_sensor_imageErr_3.ps x) e_sensor_imageErr_3.rs = e_sensor_imageErr_3.F x := by kernel_rfl
theorem o_sensor_imageErr_3 : EntryOk Try.prog Hn.hints Lb e_sensor_imageErr_3 := entry_ok tab_nil hJ 40 _ _ _ _ k_sensor_imageErr_3
/-- slices.IndexFunc[[]int,int] -/
def slices_IndexFunc_Lint_int_of_sensor_imageErr_3 (a0 : (List Int)) : Option Int :=
  (loopO (fun (s2 : Int) =>
      bif decide (s2 < (a0.length : Int)) then
        (idx a0 s2).bind fun x3 =>
        (sensor_imageErr_3 x3).bind fun x4 =>
        bif x4 then
          some (.inr (.inr s2))
        else
          some (.inl (w64 (s2 + 1)))
      else
        some (.inr (.inl ()))) 0).bind (Sum.elim (fun (p5 : Unit) =>
  some (-1)) some)
def e_slices_IndexFunc_Lint_int_of_sensor_imageErr_3 : Entry := ⟨176, [.ty (.sl I), .fn 154 []], [(I, 0)], fun x => slices_IndexFunc_Lint_int_of_sensor_imageErr_3 x.1⟩
def j_slices_IndexFunc_Lint_int_of_sensor_imageErr_3 : TH := mkTH [([], 176, .block 0, { lv := [], ps := [], abn := true, D := ⟨524080⟩ }),
  ([], 176, .loop 0, { lv := [⟨none, 8, 0⟩], ps := [(I, 0)], D := ⟨524080⟩ })] []
theorem k_slices_IndexFunc_Lint_int_of_sensor_imageErr_3 (x : denP e_slices_IndexFunc_Lint_int_of_sensor_imageErr_3.ps) : fnT Try.prog Hn.hints j_slices_IndexFunc_Lint_int_of_sensor_imageErr_3 (tabT [e_sensor_imageErr_3]) 40 176 (ofPms e_slices_IndexFunc_Lint_int_of_sensor_imageErr_3.ps x) e_slices_IndexFunc_Lint_int_of_sensor_imageErr_3.rs = e_slices_IndexFunc_Lint_int_of_sensor_imageErr_3.F x := by kernel_rfl
theorem o_slices_IndexFunc_Lint_int_of_sensor_imageErr_3 : EntryOk Try.prog Hn.hints Lb e_slices_IndexFunc_Lint_int_of_sensor_imageErr_3 := entry_ok (tab_cons o_sensor_imageErr_3 tab_nil) hJ 40 _ _ _ _ k_slices_IndexFunc_Lint_int_of_sensor_imageErr_3
/-- slices.ContainsFunc[[]int,int] -/
def slices_ContainsFunc_Lint_int_of_sensor_imageErr_3 (a0 : (List Int)) : Option Bool :=
  (slices_IndexFunc_Lint_int_of_sensor_imageErr_3 a0).bind fun x1 =>
  some (decide (x1 ≥ 0))
def e_slices_ContainsFunc_Lint_int_of_sensor_imageErr_3 : Entry := ⟨152, [.ty (.sl I), .fn 154 []], [(.bool, 0)], fun x => slices_ContainsFunc_Lint_int_of_sensor_imageErr_3 x.1⟩
def j_slices_ContainsFunc_Lint_int_of_sensor_imageErr_3 : TH := mkTH [] []
theorem k_slices_ContainsFunc_Lint_int_of_sensor_imageErr_3 (x : denP e_slices_ContainsFunc_Lint_int_of_sensor_imageErr_3.ps) : fnT Try.prog Hn.hints j_slices_ContainsFunc_Lint_int_of_sensor_imageErr_3 (tabT [e_slices_IndexFunc_Lint_int_of_sensor_imageErr_3]) 40 152 (ofPms e_slices_ContainsFunc_Lint_int_of_sensor_imageErr_3.ps x) e_slices_ContainsFunc_Lint_int_of_sensor_imageErr_3.rs = e_slices_ContainsFunc_Lint_int_of_sensor_imageErr_3.F x := by kernel_rfl
theorem o_slices_ContainsFunc_Lint_int_of_sensor_imageErr_3 : EntryOk Try.prog Hn.hints Lb e_slices_ContainsFunc_Lint_int_of_sensor_imageErr_3 := entry_ok (tab_cons o_slices_IndexFunc_Lint_int_of_sensor_imageErr_3 tab_nil) hJ 40 _ _ _ _ k_slices_ContainsFunc_Lint_int_of_sensor_imageErr_3
/-- ductility/sensor.unless -/
def sensor_unless (a0 : Bool) (a1 : Int) : Option Int :=
  bif a0 then
    some 0
  else
    some a1
def e_sensor_unless : Entry := ⟨106, [.ty .bool, .ty I], [(I, 0)], fun x => sensor_unless x.1 x.2⟩
def j_sensor_unless : TH := mkTH [] []
theorem k_sensor_unless (x : denP e_sensor_unless.ps) : fnT Try.prog Hn.hints j_sensor_unless (tabT []) 40 106 (ofPms e_sensor_unless.ps x) e_sensor_unless.rs = e_sensor_unless.F x := by kernel_rfl
theorem o_sensor_unless : EntryOk Try.prog Hn.hints Lb e_sensor_unless := entry_ok tab_nil hJ 40 _ _ _ _ k_sensor_unless
/-- ductility/sensor.first -/
def sensor_first (a0 : (List Int)) : Option Int :=
  (loopO (fun (s2 : Int) =>
      bif decide (s2 < (a0.length : Int)) then
        (idx a0 s2).bind fun x3 =>
        bif !(decide (x3 = 0)) then
          some (.inr (.inr x3))
        else
          some (.inl (w64 (s2 + 1)))
      else
        some (.inr (.inl ()))) 0).bind (Sum.elim (fun (p4 : Unit) =>
  some 0) some)
def e_sensor_first : Entry := ⟨105, [.ty (.sl I)], [(I, 0)], fun x => sensor_first x⟩
def j_sensor_first : TH := mkTH [([], 105, .block 0, { lv := [], ps := [], abn := true, D := ⟨32660⟩ }),
  ([], 105, .loop 0, { lv := [⟨none, 7, 0⟩], ps := [(I, 0)], D := ⟨32660⟩ })] []
theorem k_sensor_first (x : denP e_sensor_first.ps) : fnT Try.prog Hn.hints j_sensor_first (tabT []) 40 105 (ofPms e_sensor_first.ps x) e_sensor_first.rs = e_sensor_first.F x := by kernel_rfl
theorem o_sensor_first : EntryOk Try.prog Hn.hints Lb e_sensor_first := entry_ok tab_nil hJ 40 _ _ _ _ k_sensor_first
/-- ductility/sensor.imageErr -/
def sensor_imageErr (a0 : (List (List Int))) : Option Int :=
  (sensor_samplesOf a0).bind fun x1 =>
  ((loopO (fun (s3 : Int) =>
        bif decide (s3 < (a0.length : Int)) then
          (idx a0 s3).bind fun x4 =>
          bif !(decide ((x4.length : Int) = x1)) then
            some (.inr (.inr s3))
          else
            some (.inl (w64 (s3 + 1)))
        else
          some (.inr (.inl ()))) 0).bind (Sum.elim (fun (p5 : Unit) =>
    some (-1)) some)).bind fun (p6 : Int) =>
  (loopO (fun (s8 : (Bool × Bool × Int)) =>
      bif decide (s8.2.2 < (a0.length : Int)) then
        (idx a0 s8.2.2).bind fun x9 =>
        (bif s8.1 then
            some true
          else
            (slices_ContainsFunc_Lint_int_of_sensor_imageErr_2 x9).bind fun x10 =>
            some x10).bind fun (p11 : Bool) =>
        (bif s8.2.1 then
            (slices_ContainsFunc_Lint_int_of_sensor_imageErr_3 x9).bind fun x12 =>
            some (!x12)
          else
            some false).bind fun (p13 : Bool) =>
        some (.inl (p11, p13, w64 (s8.2.2 + 1)))
      else
        some (.inr (s8.1, s8.2.1))) (false, true, 0)).bind fun (p14 : (Bool × Bool)) =>
  (bif decide (x1 > 0) then
      (sensor_unless (!(decide (p6 ≥ 0))) (10 : Int)).bind fun x15 =>
      bif decide (x1 ≤ 10) then
        (sensor_unless (decide ((a0.length : Int) ≤ 10)) (8 : Int)).bind fun x16 =>
        (sensor_unless (!p14.1) (2 : Int)).bind fun x17 =>
        (sensor_unless (!p14.2) (11 : Int)).bind fun x18 =>
        (sensor_first ([x15, x16, x17, x18])).bind fun x19 =>
        some x19
      else
        (sensor_unless false (8 : Int)).bind fun x20 =>
        (sensor_unless (!p14.1) (2 : Int)).bind fun x21 =>
        (sensor_unless (!p14.2) (11 : Int)).bind fun x22 =>
        (sensor_first ([x15, x20, x21, x22])).bind fun x23 =>
        some x23
    else
      (sensor_unless false (10 : Int)).bind fun x24 =>
      bif decide (x1 ≤ 10) then
        (sensor_unless (decide ((a0.length : Int) ≤ 10)) (8 : Int)).bind fun x25 =>
        (sensor_unless (!p14.1) (2 : Int)).bind fun x26 =>
        (sensor_unless (!p14.2) (11 : Int)).bind fun x27 =>
        (sensor_first ([x24, x25, x26, x27])).bind fun x28 =>
        some x28
      else
        (sensor_unless false (8 : Int)).bind fun x29 =>
        (sensor_unless (!p14.1) (2 : Int)).bind fun x30 =>
        (sensor_unless (!p14.2) (11 : Int)).bind fun x31 =>
        (sensor_first ([x24, x29, x30, x31])).bind fun x32 =>
        some x32).bind fun (p33 : Int) =>
  some p33
def e_sensor_imageErr : Entry := ⟨109, [.ty (.sl (.sl I))], [(I, 0)], fun x => sensor_imageErr x⟩
def j_sensor_imageErr : TH := mkTH [([7, 13], 175, .inl 0, { lv := [⟨none, 4, 0⟩], ps := [(I, 0)], D := ⟨524272⟩, rs := [⟨0, 3⟩] }),
  ([7, 13], 175, .block 0, { lv := [], ps := [], abn := true, D := ⟨524080⟩, rs := [⟨0, 3⟩] }),
  ([7, 13], 175, .loop 0, { lv := [⟨none, 8, 0⟩], ps := [(I, 0)], D := ⟨524080⟩, rs := [⟨0, 3⟩] }),
  ([], 109, .block 0, { lv := [⟨none, 5, 0⟩, ⟨none, 6, 0⟩], ps := [(.bool, 0), (.bool, 0)], D := ⟨4294902112⟩ }),
  ([], 109, .loop 0, { lv := [⟨none, 5, 0⟩, ⟨none, 6, 0⟩, ⟨none, 16, 0⟩], ps := [(.bool, 0), (.bool, 0), (I, 0)], D := ⟨4294902112⟩ }),
  ([], 109, .region 7, { lv := [⟨none, 5, 0⟩], ps := [(.bool, 0)], D := ⟨32505888⟩ }),
  ([], 109, .region 8, { lv := [⟨none, 6, 0⟩], ps := [(.bool, 0)], D := ⟨2113929280⟩ }),
  ([], 109, .region 10, { lv := [⟨none, 2, 0⟩], ps := [(I, 0)], D := ⟨36028792723996676⟩ })] []
theorem k_sensor_imageErr (x : denP e_sensor_imageErr.ps) : fnT Try.prog Hn.hints j_sensor_imageErr (tabT [e_sensor_first, e_sensor_samplesOf, e_sensor_unless, e_slices_ContainsFunc_Lint_int_of_sensor_imageErr_2, e_slices_ContainsFunc_Lint_int_of_sensor_imageErr_3]) 40 109 (ofPms e_sensor_imageErr.ps x) e_sensor_imageErr.rs = e_sensor_imageErr.F x := by kernel_rfl
theorem o_sensor_imageErr : EntryOk Try.prog Hn.hints Lb e_sensor_imageErr := entry_ok (tab_cons o_sensor_first (tab_cons o_sensor_samplesOf (tab_cons o_sensor_unless (tab_cons o_slices_ContainsFunc_Lint_int_of_sensor_imageErr_2 (tab_cons o_slices_ContainsFunc_Lint_int_of_sensor_imageErr_3 tab_nil))))) hJ 40 _ _ _ _ k_sensor_imageErr
/-- ductility/sensor.weigh -/
def sensor_weigh (a0 : (List (List Int))) : Option (Int × Int × Int × Unit) :=
  (loopO (fun (s2 : (Int × Int × Int × Int)) =>
      bif decide (s2.1 < (a0.length : Int)) then
        (idx a0 s2.1).bind fun x3 =>
        (loopO (fun (s5 : (Int × Int × Int × Int)) =>
            bif decide (s5.1 < (x3.length : Int)) then
              (idx x3 s5.1).bind fun x6 =>
              some (.inl (w64 (s5.1 + 1), w64 (s5.2.1 + (w64 (s5.1 * x6))), w64 (s5.2.2.1 + (w64 (s2.1 * x6))), w64 (s5.2.2.2 + x6)))
            else
              some (.inr (s5.2.1, s5.2.2.1, s5.2.2.2))) (0, s2.2.1, s2.2.2.1, s2.2.2.2)).bind fun (p7 : (Int × Int × Int)) =>
        some (.inl (w64 (s2.1 + 1), p7.1, p7.2.1, p7.2.2))
      else
        some (.inr (s2.2.1, s2.2.2.1, s2.2.2.2))) (0, 0, 0, 0)).bind fun (p8 : (Int × Int × Int)) =>
  some (p8.1, p8.2.1, p8.2.2, ())
def e_sensor_weigh : Entry := ⟨110, [.ty (.sl (.sl I))], [((.pair I (.pair I (.pair I .unit))), 0)], fun x => sensor_weigh x⟩
def j_sensor_weigh : TH := mkTH [([], 110, .block 0, { lv := [⟨some 0, 3, 0⟩, ⟨some 0, 3, 1⟩, ⟨some 0, 3, 2⟩], ps := [(I, 0), (I, 0), (I, 0)], D := ⟨8796093021424⟩, wr := [⟨0, 3⟩] }),
  ([], 110, .loop 0, { lv := [⟨none, 10, 0⟩, ⟨some 0, 3, 0⟩, ⟨some 0, 3, 1⟩, ⟨some 0, 3, 2⟩], ps := [(I, 0), (I, 0), (I, 0), (I, 0)], D := ⟨8796093021424⟩, wr := [⟨0, 3⟩] }),
  ([], 110, .block 2, { lv := [⟨some 0, 3, 0⟩, ⟨some 0, 3, 1⟩, ⟨some 0, 3, 2⟩], ps := [(I, 0), (I, 0), (I, 0)], D := ⟨4398046380224⟩, wr := [⟨0, 3⟩] }),
  ([], 110, .loop 2, { lv := [⟨none, 17, 0⟩, ⟨some 0, 3, 0⟩, ⟨some 0, 3, 1⟩, ⟨some 0, 3, 2⟩], ps := [(I, 0), (I, 0), (I, 0), (I, 0)], D := ⟨4398046380224⟩, wr := [⟨0, 3⟩], rs := [⟨0, 3⟩] })] []
theorem k_sensor_weigh (x : denP e_sensor_weigh.ps) : fnT Try.prog Hn.hints j_sensor_weigh (tabT []) 40 110 (ofPms e_sensor_weigh.ps x) e_sensor_weigh.rs = e_sensor_weigh.F x := by kernel_rfl
theorem o_sensor_weigh : EntryOk Try.prog Hn.hints Lb e_sensor_weigh := entry_ok tab_nil hJ 40 _ _ _ _ k_sensor_weigh
/-- ductility/sensor.divisor -/
def sensor_divisor (a0 : (List Int)) : Option Int :=
  (loopO (fun (s2 : (Int × Int)) =>
      bif decide (s2.2 < (a0.length : Int)) then
        (idx a0 s2.2).bind fun x3 =>
        (loopO (fun (s5 : (Int × Int)) =>
            bif !(decide (s5.2 = 0)) then
              bif decide (s5.2 = 0) then
                none
              else
                some (.inl (s5.2, s5.1.tmod s5.2))
            else
              some (.inr s5.1)) (s2.1, x3)).bind fun (p6 : Int) =>
        some (.inl (p6, w64 (s2.2 + 1)))
      else
        some (.inr s2.1)) (0, 0)).bind fun (p7 : Int) =>
  some (max p7 (w64 (0 - p7)))
def e_sensor_divisor : Entry := ⟨122, [.ty (.sl I)], [(I, 0)], fun x => sensor_divisor x⟩
def j_sensor_divisor : TH := mkTH [([], 122, .block 0, { lv := [⟨none, 3, 0⟩], ps := [(I, 0)], D := ⟨524072⟩ }),
  ([], 122, .loop 0, { lv := [⟨none, 3, 0⟩, ⟨none, 8, 0⟩], ps := [(I, 0), (I, 0)], D := ⟨524072⟩ }),
  ([], 122, .block 2, { lv := [⟨none, 3, 0⟩], ps := [(I, 0)], D := ⟨258088⟩ }),
  ([], 122, .loop 2, { lv := [⟨none, 3, 0⟩, ⟨none, 5, 0⟩], ps := [(I, 0), (I, 0)], D := ⟨258088⟩ })] []
theorem k_sensor_divisor (x : denP e_sensor_divisor.ps) : fnT Try.prog Hn.hints j_sensor_divisor (tabT []) 40 122 (ofPms e_sensor_divisor.ps x) e_sensor_divisor.rs = e_sensor_divisor.F x := by kernel_rfl
theorem o_sensor_divisor : EntryOk Try.prog Hn.hints Lb e_sensor_divisor := entry_ok tab_nil hJ 40 _ _ _ _ k_sensor_divisor
/-- ductility/sensor.fraction -/
def sensor_fraction (a0 : Int) (a1 : Int) : Option (Int × Int × Unit) :=
  (sensor_divisor ([a0, a1])).bind fun x1 =>
  bif decide (x1 = 0) then
    none
  else
    bif decide (x1 = 0) then
      none
    else
      some (w64 (a0.tdiv x1), w64 (a1.tdiv x1), ())
def e_sensor_fraction : Entry := ⟨111, [.ty I, .ty I], [((.pair I (.pair I .unit)), 0)], fun x => sensor_fraction x.1 x.2⟩
def j_sensor_fraction : TH := mkTH [] []
theorem k_sensor_fraction (x : denP e_sensor_fraction.ps) : fnT Try.prog Hn.hints j_sensor_fraction (tabT [e_sensor_divisor]) 40 111 (ofPms e_sensor_fraction.ps x) e_sensor_fraction.rs = e_sensor_fraction.F x := by kernel_rfl
theorem o_sensor_fraction : EntryOk Try.prog Hn.hints Lb e_sensor_fraction := entry_ok (tab_cons o_sensor_divisor tab_nil) hJ 40 _ _ _ _ k_sensor_fraction
/-- ductility/sensor.CenterOf -/
def sensor_CenterOf (a0 : (List (List Int))) : Option ((Int × Int × Int × Int × Unit) × Int) :=
  (sensor_imageErr a0).bind fun x1 =>
  bif !(decide (x1 = 0)) then
    some ((0, 0, 0, 0, ()), x1)
  else
    (sensor_weigh a0).bind fun x2 =>
    (sensor_fraction x2.1 x2.2.2.1).bind fun x3 =>
    (sensor_fraction x2.2.1 x2.2.2.1).bind fun x4 =>
    some ((x3.1, x3.2.1, x4.1, x4.2.1, ()), 0)
def e_sensor_CenterOf : Entry := ⟨25, [.ty (.sl (.sl I))], [((.pair I (.pair I (.pair I (.pair I .unit)))), 0), (I, 0)], fun x => sensor_CenterOf x⟩
def j_sensor_CenterOf : TH := mkTH [] []
theorem k_sensor_CenterOf (x : denP e_sensor_CenterOf.ps) : fnT Try.prog Hn.hints j_sensor_CenterOf (tabT [e_sensor_fraction, e_sensor_imageErr, e_sensor_weigh]) 40 25 (ofPms e_sensor_CenterOf.ps x) e_sensor_CenterOf.rs = e_sensor_CenterOf.F x := by kernel_rfl
theorem o_sensor_CenterOf : EntryOk Try.prog Hn.hints Lb e_sensor_CenterOf := entry_ok (tab_cons o_sensor_fraction (tab_cons o_sensor_imageErr (tab_cons o_sensor_weigh tab_nil))) hJ 40 _ _ _ _ k_sensor_CenterOf
/-- ductility/sensor.MovedBy -/
def sensor_MovedBy (a0 : (List (List Int))) (a1 : (List (List Int))) : Option ((Int × Int × Int × Int × Unit) × Int) :=
  (bif decide ((a0.length : Int) = (a1.length : Int)) then
      (sensor_samplesOf a0).bind fun x1 =>
      (sensor_samplesOf a1).bind fun x2 =>
      some (decide (x1 = x2))
    else
      some false).bind fun (p3 : Bool) =>
  (sensor_imageErr a0).bind fun x4 =>
  (sensor_imageErr a1).bind fun x5 =>
  (sensor_unless p3 (13 : Int)).bind fun x6 =>
  (sensor_first ([x4, x5, x6])).bind fun x7 =>
  bif !(decide (x7 = 0)) then
    some ((0, 0, 0, 0, ()), x7)
  else
    (sensor_weigh a0).bind fun x8 =>
    (sensor_weigh a1).bind fun x9 =>
    (sensor_fraction (w64 ((w64 (x9.1 * x8.2.2.1)) - (w64 (x8.1 * x9.2.2.1)))) (w64 (x8.2.2.1 * x9.2.2.1))).bind fun x10 =>
    (sensor_fraction (w64 ((w64 (x9.2.1 * x8.2.2.1)) - (w64 (x8.2.1 * x9.2.2.1)))) (w64 (x8.2.2.1 * x9.2.2.1))).bind fun x11 =>
    some ((x10.1, x10.2.1, x11.1, x11.2.1, ()), 0)
def e_sensor_MovedBy : Entry := ⟨26, [.ty (.sl (.sl I)), .ty (.sl (.sl I))], [((.pair I (.pair I (.pair I (.pair I .unit)))), 0), (I, 0)], fun x => sensor_MovedBy x.1 x.2⟩
def j_sensor_MovedBy : TH := mkTH [([], 26, .region 1, { lv := [⟨none, 6, 0⟩], ps := [(.bool, 0)], D := ⟨8386624⟩ })] []
theorem k_sensor_MovedBy (x : denP e_sensor_MovedBy.ps) : fnT Try.prog Hn.hints j_sensor_MovedBy (tabT [e_sensor_first, e_sensor_fraction, e_sensor_imageErr, e_sensor_samplesOf, e_sensor_unless, e_sensor_weigh]) 40 26 (ofPms e_sensor_MovedBy.ps x) e_sensor_MovedBy.rs = e_sensor_MovedBy.F x := by kernel_rfl
theorem o_sensor_MovedBy : EntryOk Try.prog Hn.hints Lb e_sensor_MovedBy := entry_ok (tab_cons o_sensor_first (tab_cons o_sensor_fraction (tab_cons o_sensor_imageErr (tab_cons o_sensor_samplesOf (tab_cons o_sensor_unless (tab_cons o_sensor_weigh tab_nil)))))) hJ 40 _ _ _ _ k_sensor_MovedBy
/-- ductility/ductilitybase.Whole -/
def base_Whole (a0 : Int) : Option (Int × Int × Unit) :=
  some (a0, 1, ())
def e_base_Whole : Entry := ⟨33, [.ty I], [((.pair I (.pair I .unit)), 0)], fun x => base_Whole x⟩
def j_base_Whole : TH := mkTH [] []
theorem k_base_Whole (x : denP e_base_Whole.ps) : fnT Try.prog Hn.hints j_base_Whole (tabT []) 40 33 (ofPms e_base_Whole.ps x) e_base_Whole.rs = e_base_Whole.F x := by kernel_rfl
theorem o_base_Whole : EntryOk Try.prog Hn.hints Lb e_base_Whole := entry_ok tab_nil hJ 40 _ _ _ _ k_base_Whole
/-- ductility/ductilitybase.Cmp -/
def base_Cmp (a0 : (Int × Int × Unit)) (a1 : (Int × Int × Unit)) : Option Int :=
  bif decide (w64 (a0.1 * a1.2.1) < w64 (a1.1 * a0.2.1)) then
    some (-1)
  else
    bif decide (w64 (a0.1 * a1.2.1) > w64 (a1.1 * a0.2.1)) then
      some 1
    else
      some 0
def e_base_Cmp : Entry := ⟨32, [.ty (.pair I (.pair I .unit)), .ty (.pair I (.pair I .unit))], [(I, 0)], fun x => base_Cmp x.1 x.2⟩
def j_base_Cmp : TH := mkTH [] []
theorem k_base_Cmp (x : denP e_base_Cmp.ps) : fnT Try.prog Hn.hints j_base_Cmp (tabT []) 40 32 (ofPms e_base_Cmp.ps x) e_base_Cmp.rs = e_base_Cmp.F x := by kernel_rfl
theorem o_base_Cmp : EntryOk Try.prog Hn.hints Lb e_base_Cmp := entry_ok tab_nil hJ 40 _ _ _ _ k_base_Cmp
/-- ductility/ductilityref07.MovedErr -/
def ref07_MovedErr (a0 : (List (List Int))) (a1 : (List (List Int))) : Option Int :=
  (ref07_ImageErr a0).bind fun x1 =>
  bif !(decide (x1 = 0)) then
    some x1
  else
    (ref07_ImageErr a1).bind fun x2 =>
    bif !(decide (x2 = 0)) then
      some x2
    else
      (bif !(decide ((a0.length : Int) = (a1.length : Int))) then
          some true
        else
          (idx a0 0).bind fun x3 =>
          (idx a1 0).bind fun x4 =>
          some (!(decide ((x3.length : Int) = (x4.length : Int))))).bind fun (p5 : Bool) =>
      bif p5 then
        some 13
      else
        some 0
def e_ref07_MovedErr : Entry := ⟨30, [.ty (.sl (.sl I)), .ty (.sl (.sl I))], [(I, 0)], fun x => ref07_MovedErr x.1 x.2⟩
def j_ref07_MovedErr : TH := mkTH [([], 30, .region 7, { lv := [⟨none, 32, 0⟩], ps := [(.bool, 0)], D := ⟨8589803520⟩ })] []
theorem k_ref07_MovedErr (x : denP e_ref07_MovedErr.ps) : fnT Try.prog Hn.hints j_ref07_MovedErr (tabT [e_ref07_ImageErr]) 40 30 (ofPms e_ref07_MovedErr.ps x) e_ref07_MovedErr.rs = e_ref07_MovedErr.F x := by kernel_rfl
theorem o_ref07_MovedErr : EntryOk Try.prog Hn.hints Lb e_ref07_MovedErr := entry_ok (tab_cons o_ref07_ImageErr tab_nil) hJ 40 _ _ _ _ k_ref07_MovedErr
/-- ductility/ductilitylaw07.SensorCenters -/
def law07_SensorCenters (a0 : (List (List Int))) (a1 : (List (List Int))) (a2 : Bool) : Option Bool :=
  (law07_awake).bind fun x1 =>
  bif !x1 then
    some false
  else
    ((law07_images a0).bind fun x2 =>
      bif !x2 then
        some true
      else
        (law07_images a1).bind fun x3 =>
        bif !x3 then
          some true
        else
          (ref07_ImageErr a0).bind fun x4 =>
          bif !(decide (x4 = 0)) then
            some true
          else
            bif decide ((a0.length : Int) > 9) then
              some true
            else
              (idx a0 0).bind fun x5 =>
              some (decide ((x5.length : Int) > 9))).bind fun (p6 : Bool) =>
    bif p6 then
      some true
    else
      (loopO (fun (s9 : ((List (List Int)) × (List (List Int)) × Int)) =>
          bif decide (s9.2.2 ≤ (a0.length : Int)) then
            (idx a0 0).bind fun x10 =>
            (mkS (0 : Int) (w64 ((x10.length : Int) + 1))).bind fun x11 =>
            bif decide (w64 ((x10.length : Int) + 1) = w64 ((x10.length : Int) + 1)) then
              (idx a0 0).bind fun x12 =>
              (mkS (0 : Int) (w64 ((x12.length : Int) + 1))).bind fun x13 =>
              bif decide (w64 ((x12.length : Int) + 1) = w64 ((x12.length : Int) + 1)) then
                (loopO (fun (s15 : ((List Int) × (List Int) × Int)) =>
                    (idx a0 0).bind fun x16 =>
                    bif decide (s15.2.2 < (x16.length : Int)) then
                      (bif decide (s9.2.2 < (a0.length : Int)) then
                          (idx a0 s9.2.2).bind fun x17 =>
                          (idx x17 s15.2.2).bind fun x18 =>
                          (idx s15.1 s15.2.2).bind fun x19 =>
                          (idx s15.1 s15.2.2).bind fun x20 =>
                          let l21 : (List Int) := List.set s15.1 s15.2.2.toNat x18
                          some l21
                        else
                          some s15.1).bind fun (p22 : (List Int)) =>
                      (bif a2 then
                          some (decide (s9.2.2 > 0))
                        else
                          some false).bind fun (p23 : Bool) =>
                      (bif p23 then
                          (idx a0 (w64 (s9.2.2 - 1))).bind fun x24 =>
                          (idx x24 s15.2.2).bind fun x25 =>
                          (idx s15.2.1 s15.2.2).bind fun x26 =>
                          (idx s15.2.1 s15.2.2).bind fun x27 =>
                          let l28 : (List Int) := List.set s15.2.1 s15.2.2.toNat x25
                          some l28
                        else
                          some s15.2.1).bind fun (p29 : (List Int)) =>
                      (bif !a2 then
                          some (decide (s9.2.2 < (a0.length : Int)))
                        else
                          some false).bind fun (p30 : Bool) =>
                      (bif p30 then
                          (idx a0 s9.2.2).bind fun x31 =>
                          (idx x31 s15.2.2).bind fun x32 =>
                          (idx p29 (w64 (s15.2.2 + 1))).bind fun x33 =>
                          (idx p29 (w64 (s15.2.2 + 1))).bind fun x34 =>
                          let l35 : (List Int) := List.set p29 (w64 (s15.2.2 + 1)).toNat x32
                          some l35
                        else
                          some p29).bind fun (p36 : (List Int)) =>
                      some (.inl (p22, p36, w64 (s15.2.2 + 1)))
                    else
                      some (.inr (s15.1, s15.2.1))) (x11, x13, 0)).bind fun (p37 : ((List Int) × (List Int))) =>
                (app s9.1 ([p37.1])).bind fun x38 =>
                (app s9.2.1 ([p37.2])).bind fun x39 =>
                some (.inl (x38, x39, w64 (s9.2.2 + 1)))
              else
                none
            else
              none
          else
            some (.inr (s9.1, s9.2.1))) ([], [], 0)).bind fun (p40 : ((List (List Int)) × (List (List Int)))) =>
      (base_CopyLists p40.1).bind fun x41 =>
      (sensor_CenterOf x41).bind fun x42 =>
      (base_CopyLists p40.1).bind fun x43 =>
      (base_CopyLists p40.2).bind fun x44 =>
      (sensor_MovedBy x43 x44).bind fun x45 =>
      (base_CopyLists p40.1).bind fun x46 =>
      (base_CopyLists p40.1).bind fun x47 =>
      (sensor_MovedBy x46 x47).bind fun x48 =>
      (bif !(decide (x42.2 = 0)) then
          some true
        else
          bif !(decide (x45.2 = 0)) then
            some true
          else
            bif !(decide (x48.2 = 0)) then
              some true
            else
              bif decide (x42.1.2.1 ≤ 0) then
                some true
              else
                bif decide (x42.1.2.2.2.1 ≤ 0) then
                  some true
                else
                  (base_Whole (0 : Int)).bind fun x49 =>
                  (base_Cmp (x42.1.1, x42.1.2.1, ()) x49).bind fun x50 =>
                  bif decide (x50 < 0) then
                    some true
                  else
                    (base_Whole (0 : Int)).bind fun x51 =>
                    (base_Cmp (x42.1.2.2.1, x42.1.2.2.2.1, ()) x51).bind fun x52 =>
                    bif decide (x52 < 0) then
                      some true
                    else
                      (idx a0 0).bind fun x53 =>
                      (base_Whole (w64 ((x53.length : Int) - 1))).bind fun x54 =>
                      (base_Cmp (x42.1.1, x42.1.2.1, ()) x54).bind fun x55 =>
                      bif decide (x55 > 0) then
                        some true
                      else
                        (base_Whole (w64 ((a0.length : Int) - 1))).bind fun x56 =>
                        (base_Cmp (x42.1.2.2.1, x42.1.2.2.2.1, ()) x56).bind fun x57 =>
                        some (decide (x57 > 0))).bind fun (p58 : Bool) =>
      bif p58 then
        some false
      else
        (base_Whole (1 : Int)).bind fun x59 =>
        (base_Whole (0 : Int)).bind fun x60 =>
        (let v61 : Bool := !(bif (bif decide (x48.1.1 = x60.1) then (bif decide (x48.1.2.1 = x60.2.1) then true else false) else false) then (bif (bif decide (x48.1.2.2.1 = x60.1) then (bif decide (x48.1.2.2.2.1 = x60.2.1) then true else false) else false) then true else false) else false)
          bif v61 then
            some true
          else
            bif a2 then
              let v62 : Bool := !(bif (bif decide (x45.1.1 = x60.1) then (bif decide (x45.1.2.1 = x60.2.1) then true else false) else false) then (bif (bif decide (x45.1.2.2.1 = x59.1) then (bif decide (x45.1.2.2.2.1 = x59.2.1) then true else false) else false) then true else false) else false)
              bif v62 then
                some true
              else
                bif !a2 then
                  let v63 : Bool := !(bif (bif decide (x45.1.1 = x59.1) then (bif decide (x45.1.2.1 = x59.2.1) then true else false) else false) then (bif (bif decide (x45.1.2.2.1 = x60.1) then (bif decide (x45.1.2.2.2.1 = x60.2.1) then true else false) else false) then true else false) else false)
                  some v63
                else
                  some false
            else
              bif !a2 then
                let v64 : Bool := !(bif (bif decide (x45.1.1 = x59.1) then (bif decide (x45.1.2.1 = x59.2.1) then true else false) else false) then (bif (bif decide (x45.1.2.2.1 = x60.1) then (bif decide (x45.1.2.2.2.1 = x60.2.1) then true else false) else false) then true else false) else false)
                some v64
              else
                some false).bind fun (p65 : Bool) =>
        bif p65 then
          some false
        else
          (ref07_MovedErr a0 a1).bind fun x66 =>
          bif !(decide (x66 = 0)) then
            some true
          else
            (base_CopyLists a0).bind fun x67 =>
            (base_CopyLists a1).bind fun x68 =>
            (sensor_MovedBy x67 x68).bind fun x69 =>
            (base_CopyLists a1).bind fun x70 =>
            (base_CopyLists a0).bind fun x71 =>
            (sensor_MovedBy x70 x71).bind fun x72 =>
            (bif decide (x69.2 = 0) then
                bif decide (x72.2 = 0) then
                  bif decide (x69.1.1 = w64 (0 - x72.1.1)) then
                    bif decide (x69.1.2.1 = x72.1.2.1) then
                      bif decide (x69.1.2.2.1 = w64 (0 - x72.1.2.2.1)) then
                        some (decide (x69.1.2.2.2.1 = x72.1.2.2.2.1))
                      else
                        some false
                    else
                      some false
                  else
                    some false
                else
                  some false
              else
                some false).bind fun (p73 : Bool) =>
            some p73
def e_law07_SensorCenters : Entry := ⟨5, [.ty (.sl (.sl I)), .ty (.sl (.sl I)), .ty .bool], [(.bool, 0)], fun x => law07_SensorCenters x.1 x.2.1 x.2.2⟩
def j_law07_SensorCenters : TH := mkTH [([], 5, .region 3, { lv := [⟨none, 51, 0⟩], ps := [(.bool, 0)], D := ⟨4503599493152768⟩ }),
  ([], 5, .block 0, { lv := [⟨none, 7, 0⟩, ⟨none, 8, 0⟩], ps := [((.sl (.sl I)), 2), ((.sl (.sl I)), 2)], D := ⟨43556142965880123323311945247666703703936⟩ }),
  ([], 5, .loop 0, { lv := [⟨none, 7, 0⟩, ⟨none, 8, 0⟩, ⟨none, 9, 0⟩], ps := [((.sl (.sl I)), 2), ((.sl (.sl I)), 2), (I, 0)], D := ⟨43556142965880123323311945247666703703936⟩ }),
  ([], 5, .block 2, { lv := [⟨none, 10, 0⟩, ⟨none, 11, 0⟩], ps := [((.sl I), 1), ((.sl I), 1)], D := ⟨170141183460469231188084814293755763712⟩ }),
  ([], 5, .loop 2, { lv := [⟨none, 10, 0⟩, ⟨none, 11, 0⟩, ⟨none, 12, 0⟩], ps := [((.sl I), 1), ((.sl I), 1), (I, 0)], D := ⟨170141183460469231188084814293755763712⟩ }),
  ([], 5, .cond 81, { lv := [⟨none, 10, 0⟩], ps := [((.sl I), 1)], D := ⟨4946929176229545452542886912⟩ }),
  ([], 5, .region 15, { lv := [⟨none, 96, 0⟩], ps := [(.bool, 0)], D := ⟨153504564871387154087491403776⟩ }),
  ([], 5, .cond 96, { lv := [⟨none, 11, 0⟩], ps := [((.sl I), 1)], D := ⟨324360097333398198107968932677632⟩ }),
  ([], 5, .region 17, { lv := [⟨none, 115, 0⟩], ps := [(.bool, 0)], D := ⟨82752231182898815329704785246945280⟩ }),
  ([], 5, .cond 115, { lv := [⟨none, 11, 0⟩], ps := [((.sl I), 1)], D := ⟨170058106710732674489630815774616586240⟩ }),
  ([], 5, .region 23, { lv := [⟨none, 214, 0⟩], ps := [(.bool, 0)], D := ⟨52656145834278593166271309175472351383986943610739178170163920896⟩, rs := [⟨0, 13⟩] }),
  ([], 5, .region 26, { lv := [⟨none, 242, 0⟩], ps := [(.bool, 0)], D := ⟨14134776307602491299552006610107292759279006537214760863874627101719003136⟩ }),
  ([], 5, .region 32, { lv := [⟨none, 6, 0⟩], ps := [(.bool, 0)], D := ⟨260740604970799397654938671643386187528506842337034621523388775525163755798954085510880952384⟩, rs := [⟨0, 21⟩, ⟨0, 23⟩] })] []
theorem k_law07_SensorCenters (x : denP e_law07_SensorCenters.ps) : fnT Try.prog Hn.hints j_law07_SensorCenters (tabT [e_base_Cmp, e_base_CopyLists, e_base_Whole, e_law07_awake, e_law07_images, e_ref07_ImageErr, e_ref07_MovedErr, e_sensor_CenterOf, e_sensor_MovedBy]) 40 5 (ofPms e_law07_SensorCenters.ps x) e_law07_SensorCenters.rs = e_law07_SensorCenters.F x := by kernel_rfl
theorem o_law07_SensorCenters : EntryOk Try.prog Hn.hints Lb e_law07_SensorCenters := entry_ok (tab_cons o_base_Cmp (tab_cons o_base_CopyLists (tab_cons o_base_Whole (tab_cons o_law07_awake (tab_cons o_law07_images (tab_cons o_ref07_ImageErr (tab_cons o_ref07_MovedErr (tab_cons o_sensor_CenterOf (tab_cons o_sensor_MovedBy tab_nil))))))))) hJ 40 _ _ _ _ k_law07_SensorCenters
end
end Go.Proofs.Ytpiggpgocnlomaa
