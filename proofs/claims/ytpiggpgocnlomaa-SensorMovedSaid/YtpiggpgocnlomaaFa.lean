/-
  TYPED FUNCTIONS (written by gen.py), each with the equation that the kernel checks: it is what the typed interpreter computes.
-/
import Derived.Test.YtpiggpgocnlomaaTxI
import Derived.Test.YtpiggpgocnlomaaAbH
import Derived.Test.YtpiggpgocnlomaaProg
import Derived.KernelRfl
set_option maxRecDepth 100000
set_option linter.unusedVariables false
namespace Go.Proofs.Ytpiggpgocnlomaa
open Go Go.Ab Go.Tx
noncomputable section
@[reducible] def I : Ty := .int .i64
@[reducible] def w64 (n : Int) : Int := IntKind.wrap .i64 n
def lookJ : List (List Tmp × FuncId × Kind × Join) → List Tmp → FuncId → Kind → Option Join
  | [], _, _, _ => none
  | (c, f, k, j) :: l, c', f', k' => if f = f' then (if k = k' then (if c = c' then some j else lookJ l c' f' k') else lookJ l c' f' k') else lookJ l c' f' k'
def awakeId : Nat := 14
def mkTH (js : List (List Tmp × FuncId × Kind × Join)) (inl : List (List Tmp × FuncId × Tmp)) : TH where
  lib := fun g => decide (g = awakeId)
  join := lookJ js
  inl := fun c f d => inl.any fun (c', f', d') => decide (f = f') && decide (d = d') && decide (c = c')
/-- functions that are known otherwise -/
def Lb : FuncId → Option (List V → Option V) := fun g => if g = awakeId then some (fun args => match args with
    | [] => some (.val (.bool true))
    | _ => none) else none
theorem hJ {js : List (List Tmp × FuncId × Kind × Join)} {inl : List (List Tmp × FuncId × Tmp)} : ∀ g, (mkTH js inl).lib g = false → Lb g = none := fun g h => by
  simp only [mkTH, decide_eq_false_iff_not] at h
  simp [Lb, h]
def law07_awake : Option Bool := some true
def e_law07_awake : Entry := ⟨14, [], [(.bool, 0)], fun _ => law07_awake⟩
theorem o_law07_awake : EntryOk Try.prog Hn.hints Lb e_law07_awake := fun x y h vs hv => by
  obtain rfl : true = y := Option.some.inj h
  simp only [e_law07_awake, ofPms, RVL] at hv
  subst hv
  refine ⟨.val (.bool true), ⟨1, fun m hm => ?_⟩, by simp [packT, e_law07_awake, ofL, packedT, ofTy, RV, RTy]⟩
  obtain ⟨m', rfl⟩ : ∃ m', m = m' + 1 := ⟨m - 1, by omega⟩
  simp [orcN, Lb, awakeId, e_law07_awake]
/-- ductility/ductilitylaw07.samples -/
def law07_samples (a0 : (List Int)) : Option Bool :=
  some (decide ((a0.length : Int) ≤ 62))
def e_law07_samples : Entry := ⟨34, [.ty (.sl I)], [(.bool, 0)], fun x => law07_samples x⟩
def j_law07_samples : TH := mkTH [] []
theorem k_law07_samples (x : denP e_law07_samples.ps) : fnT Try.prog Hn.hints j_law07_samples (tabT []) 40 34 (ofPms e_law07_samples.ps x) e_law07_samples.rs = e_law07_samples.F x := by kernel_rfl
theorem o_law07_samples : EntryOk Try.prog Hn.hints Lb e_law07_samples := entry_ok tab_nil hJ 40 _ _ _ _ k_law07_samples
/-- ductility/ductilitylaw07.channels -/
def law07_channels (a0 : (List (List Int))) : Option Bool :=
  (loopO (fun (s2 : Int) =>
      bif decide (s2 < (a0.length : Int)) then
        (idx a0 s2).bind fun x3 =>
        (law07_samples x3).bind fun x4 =>
        bif !x4 then
          some (.inr (.inr false))
        else
          some (.inl (w64 (s2 + 1)))
      else
        some (.inr (.inl ()))) 0).bind (Sum.elim (fun (p5 : Unit) =>
  some (decide ((a0.length : Int) ≤ 9))) some)
def e_law07_channels : Entry := ⟨15, [.ty (.sl (.sl I))], [(.bool, 0)], fun x => law07_channels x⟩
def j_law07_channels : TH := mkTH [([], 15, .block 0, { lv := [], ps := [], abn := true, D := [2, 3, 4, 5, 6, 7, 8, 9, 10, 11, 12, 13, 14, 15] }),
  ([], 15, .loop 0, { lv := [⟨none, 3, 0⟩], ps := [(I, 0)], D := [2, 3, 4, 5, 6, 7, 8, 9, 10, 11, 12, 13, 14, 15] })] []
theorem k_law07_channels (x : denP e_law07_channels.ps) : fnT Try.prog Hn.hints j_law07_channels (tabT [e_law07_samples]) 40 15 (ofPms e_law07_channels.ps x) e_law07_channels.rs = e_law07_channels.F x := by kernel_rfl
theorem o_law07_channels : EntryOk Try.prog Hn.hints Lb e_law07_channels := entry_ok (tab_cons o_law07_samples tab_nil) hJ 40 _ _ _ _ k_law07_channels
/-- ductility/ductilitybase.CopyInts -/
def base_CopyInts (a0 : (List Int)) : Option (List Int) :=
  (app [] a0).bind fun x1 =>
  some x1
def e_base_CopyInts : Entry := ⟨36, [.ty (.sl I)], [((.sl I), 1)], fun x => base_CopyInts x⟩
def j_base_CopyInts : TH := mkTH [] []
theorem k_base_CopyInts (x : denP e_base_CopyInts.ps) : fnT Try.prog Hn.hints j_base_CopyInts (tabT []) 40 36 (ofPms e_base_CopyInts.ps x) e_base_CopyInts.rs = e_base_CopyInts.F x := by kernel_rfl
theorem o_base_CopyInts : EntryOk Try.prog Hn.hints Lb e_base_CopyInts := entry_ok tab_nil hJ 40 _ _ _ _ k_base_CopyInts
/-- ductility/ductilitybase.CopyLists -/
def base_CopyLists (a0 : (List (List Int))) : Option (List (List Int)) :=
  (loopO (fun (s3 : ((List (List Int)) × Int)) =>
      bif decide (s3.2 < (a0.length : Int)) then
        (idx a0 s3.2).bind fun x4 =>
        (base_CopyInts x4).bind fun x5 =>
        (app s3.1 ([x5])).bind fun x6 =>
        some (.inl (x6, w64 (s3.2 + 1)))
      else
        some (.inr s3.1)) ([], 0)).bind fun (p7 : (List (List Int))) =>
  some p7
def e_base_CopyLists : Entry := ⟨17, [.ty (.sl (.sl I))], [((.sl (.sl I)), 2)], fun x => base_CopyLists x⟩
def j_base_CopyLists : TH := mkTH [([], 17, .block 0, { lv := [⟨none, 3, 0⟩], ps := [((.sl (.sl I)), 2)], D := [3, 4, 5, 6, 7, 8, 9, 10, 11, 12, 13, 14, 15, 16, 17, 18] }),
  ([], 17, .loop 0, { lv := [⟨none, 3, 0⟩, ⟨none, 4, 0⟩], ps := [((.sl (.sl I)), 2), (I, 0)], D := [3, 4, 5, 6, 7, 8, 9, 10, 11, 12, 13, 14, 15, 16, 17, 18] })] []
theorem k_base_CopyLists (x : denP e_base_CopyLists.ps) : fnT Try.prog Hn.hints j_base_CopyLists (tabT [e_base_CopyInts]) 40 17 (ofPms e_base_CopyLists.ps x) e_base_CopyLists.rs = e_base_CopyLists.F x := by kernel_rfl
theorem o_base_CopyLists : EntryOk Try.prog Hn.hints Lb e_base_CopyLists := entry_ok (tab_cons o_base_CopyInts tab_nil) hJ 40 _ _ _ _ k_base_CopyLists
/-- ductility/sensor.within -/
def sensor_within (a0 : Int) (a1 : Int) (a2 : Int) : Option Bool :=
  (bif decide (a1 ≤ a0) then
      some (decide (a0 ≤ a2))
    else
      some false).bind fun (p1 : Bool) =>
  some p1
def e_sensor_within : Entry := ⟨107, [.ty I, .ty I, .ty I], [(.bool, 0)], fun x => sensor_within x.1 x.2.1 x.2.2⟩
def j_sensor_within : TH := mkTH [([], 107, .region 1, { lv := [⟨none, 6, 0⟩], ps := [(.bool, 0)], D := [6, 7, 8, 9, 10, 11, 12, 13, 14] })] []
theorem k_sensor_within (x : denP e_sensor_within.ps) : fnT Try.prog Hn.hints j_sensor_within (tabT []) 40 107 (ofPms e_sensor_within.ps x) e_sensor_within.rs = e_sensor_within.F x := by kernel_rfl
theorem o_sensor_within : EntryOk Try.prog Hn.hints Lb e_sensor_within := entry_ok tab_nil hJ 40 _ _ _ _ k_sensor_within
/-- ductility/sensor.samplesOf -/
def sensor_samplesOf (a0 : (List (List Int))) : Option Int :=
  bif decide ((a0.length : Int) = 0) then
    some 0
  else
    (idx a0 0).bind fun x1 =>
    some (x1.length : Int)
def e_sensor_samplesOf : Entry := ⟨108, [.ty (.sl (.sl I))], [(I, 0)], fun x => sensor_samplesOf x⟩
def j_sensor_samplesOf : TH := mkTH [] []
theorem k_sensor_samplesOf (x : denP e_sensor_samplesOf.ps) : fnT Try.prog Hn.hints j_sensor_samplesOf (tabT []) 40 108 (ofPms e_sensor_samplesOf.ps x) e_sensor_samplesOf.rs = e_sensor_samplesOf.F x := by kernel_rfl
theorem o_sensor_samplesOf : EntryOk Try.prog Hn.hints Lb e_sensor_samplesOf := entry_ok tab_nil hJ 40 _ _ _ _ k_sensor_samplesOf
/-- ductility/sensor.unless -/
def sensor_unless (a0 : Bool) (a1 : Int) : Option Int :=
  bif a0 then
    some 0
  else
    some a1
def e_sensor_unless : Entry := ⟨106, [.ty .bool, .ty I], [(I, 0)], fun x => sensor_unless x.1 x.2⟩
def j_sensor_unless : TH := mkTH [] []
theorem k_sensor_unless (x : denP e_sensor_unless.ps) : fnT Try.prog Hn.hints j_sensor_unless (tabT []) 40 106 (ofPms e_sensor_unless.ps x) e_sensor_unless.rs = e_sensor_unless.F x := by kernel_rfl
theorem o_sensor_unless : EntryOk Try.prog Hn.hints Lb e_sensor_unless := entry_ok tab_nil hJ 40 _ _ _ _ k_sensor_unless
/-- ductility/sensor.first -/
def sensor_first (a0 : (List Int)) : Option Int :=
  (loopO (fun (s2 : Int) =>
      bif decide (s2 < (a0.length : Int)) then
        (idx a0 s2).bind fun x3 =>
        bif !(decide (x3 = 0)) then
          some (.inr (.inr x3))
        else
          some (.inl (w64 (s2 + 1)))
      else
        some (.inr (.inl ()))) 0).bind (Sum.elim (fun (p4 : Unit) =>
  some 0) some)
def e_sensor_first : Entry := ⟨105, [.ty (.sl I)], [(I, 0)], fun x => sensor_first x⟩
def j_sensor_first : TH := mkTH [([], 105, .block 0, { lv := [], ps := [], abn := true, D := [2, 4, 7, 8, 9, 10, 11, 12, 13, 14] }),
  ([], 105, .loop 0, { lv := [⟨none, 7, 0⟩], ps := [(I, 0)], D := [2, 4, 7, 8, 9, 10, 11, 12, 13, 14] })] []
theorem k_sensor_first (x : denP e_sensor_first.ps) : fnT Try.prog Hn.hints j_sensor_first (tabT []) 40 105 (ofPms e_sensor_first.ps x) e_sensor_first.rs = e_sensor_first.F x := by kernel_rfl
theorem o_sensor_first : EntryOk Try.prog Hn.hints Lb e_sensor_first := entry_ok tab_nil hJ 40 _ _ _ _ k_sensor_first
/-- ductility/sensor.sized -/
def sensor_sized (a0 : Int) (a1 : Int) : Option Bool :=
  (sensor_within a0 (w64 (0 - a1)) a1).bind fun x1 =>
  some x1
def e_sensor_sized : Entry := ⟨118, [.ty I, .ty I], [(.bool, 0)], fun x => sensor_sized x.1 x.2⟩
def j_sensor_sized : TH := mkTH [] []
theorem k_sensor_sized (x : denP e_sensor_sized.ps) : fnT Try.prog Hn.hints j_sensor_sized (tabT [e_sensor_within]) 40 118 (ofPms e_sensor_sized.ps x) e_sensor_sized.rs = e_sensor_sized.F x := by kernel_rfl
theorem o_sensor_sized : EntryOk Try.prog Hn.hints Lb e_sensor_sized := entry_ok (tab_cons o_sensor_within tab_nil) hJ 40 _ _ _ _ k_sensor_sized
/-- ductility/sensor.CheckRaw$1 -/
def sensor_CheckRaw_1 (a0 : Int) (a1 : Int) : Option Int :=
  (sensor_sized a1 (100000 : Int)).bind fun x1 =>
  (sensor_unless x1 (2 : Int)).bind fun x2 =>
  some x2
def e_sensor_CheckRaw_1 : Entry := ⟨142, [.ty I, .ty I], [(I, 0)], fun x => sensor_CheckRaw_1 x.1 x.2⟩
def j_sensor_CheckRaw_1 : TH := mkTH [] []
theorem k_sensor_CheckRaw_1 (x : denP e_sensor_CheckRaw_1.ps) : fnT Try.prog Hn.hints j_sensor_CheckRaw_1 (tabT [e_sensor_sized, e_sensor_unless]) 40 142 (ofPms e_sensor_CheckRaw_1.ps x) e_sensor_CheckRaw_1.rs = e_sensor_CheckRaw_1.F x := by kernel_rfl
theorem o_sensor_CheckRaw_1 : EntryOk Try.prog Hn.hints Lb e_sensor_CheckRaw_1 := entry_ok (tab_cons o_sensor_sized (tab_cons o_sensor_unless tab_nil)) hJ 40 _ _ _ _ k_sensor_CheckRaw_1
/-- ductility/sensor.each[int] -/
def sensor_each_int_of_sensor_CheckRaw_1 (a0 : (List Int)) : Option (Int × Int) :=
  (loopO (fun (s2 : Int) =>
      bif decide (s2 < (a0.length : Int)) then
        (idx a0 s2).bind fun x3 =>
        (sensor_CheckRaw_1 s2 x3).bind fun x4 =>
        bif !(decide (x4 = 0)) then
          some (.inr (.inr (s2, x4)))
        else
          some (.inl (w64 (s2 + 1)))
      else
        some (.inr (.inl ()))) 0).bind (Sum.elim (fun (p5 : Unit) =>
  some (0, 0)) some)
def e_sensor_each_int_of_sensor_CheckRaw_1 : Entry := ⟨141, [.ty (.sl I), .fn 142 []], [(I, 0), (I, 0)], fun x => sensor_each_int_of_sensor_CheckRaw_1 x.1⟩
def j_sensor_each_int_of_sensor_CheckRaw_1 : TH := mkTH [([], 141, .block 0, { lv := [], ps := [], abn := true, D := [4, 5, 6, 7, 8, 11, 12, 13, 14, 15, 16, 17, 18, 19, 20, 21, 22, 23, 24] }),
  ([], 141, .loop 0, { lv := [⟨none, 11, 0⟩], ps := [(I, 0)], D := [4, 5, 6, 7, 8, 11, 12, 13, 14, 15, 16, 17, 18, 19, 20, 21, 22, 23, 24] })] []
theorem k_sensor_each_int_of_sensor_CheckRaw_1 (x : denP e_sensor_each_int_of_sensor_CheckRaw_1.ps) : fnT Try.prog Hn.hints j_sensor_each_int_of_sensor_CheckRaw_1 (tabT [e_sensor_CheckRaw_1]) 40 141 (ofPms e_sensor_each_int_of_sensor_CheckRaw_1.ps x) e_sensor_each_int_of_sensor_CheckRaw_1.rs = e_sensor_each_int_of_sensor_CheckRaw_1.F x := by kernel_rfl
theorem o_sensor_each_int_of_sensor_CheckRaw_1 : EntryOk Try.prog Hn.hints Lb e_sensor_each_int_of_sensor_CheckRaw_1 := entry_ok (tab_cons o_sensor_CheckRaw_1 tab_nil) hJ 40 _ _ _ _ k_sensor_each_int_of_sensor_CheckRaw_1
/-- ductility/sensor.CheckRaw -/
def sensor_CheckRaw (a0 : (List Int)) : Option (Int × Int) :=
  (sensor_unless (decide ((a0.length : Int) > 0)) (10 : Int)).bind fun x1 =>
  (sensor_unless (decide ((a0.length : Int) ≤ 60)) (8 : Int)).bind fun x2 =>
  (sensor_first ([x1, x2])).bind fun x3 =>
  bif !(decide (x3 = 0)) then
    some (0, x3)
  else
    (sensor_each_int_of_sensor_CheckRaw_1 a0).bind fun x4 =>
    some (x4.1, x4.2)
def e_sensor_CheckRaw : Entry := ⟨80, [.ty (.sl I)], [(I, 0), (I, 0)], fun x => sensor_CheckRaw x⟩
def j_sensor_CheckRaw : TH := mkTH [] []
theorem k_sensor_CheckRaw (x : denP e_sensor_CheckRaw.ps) : fnT Try.prog Hn.hints j_sensor_CheckRaw (tabT [e_sensor_each_int_of_sensor_CheckRaw_1, e_sensor_first, e_sensor_unless]) 40 80 (ofPms e_sensor_CheckRaw.ps x) e_sensor_CheckRaw.rs = e_sensor_CheckRaw.F x := by kernel_rfl
theorem o_sensor_CheckRaw : EntryOk Try.prog Hn.hints Lb e_sensor_CheckRaw := entry_ok (tab_cons o_sensor_each_int_of_sensor_CheckRaw_1 (tab_cons o_sensor_first (tab_cons o_sensor_unless tab_nil))) hJ 40 _ _ _ _ k_sensor_CheckRaw
/-- ductility/sensor.rawErr -/
def sensor_rawErr (a0 : (List Int)) : Option Int :=
  (sensor_CheckRaw a0).bind fun x1 =>
  some x1.2
def e_sensor_rawErr : Entry := ⟨115, [.ty (.sl I)], [(I, 0)], fun x => sensor_rawErr x⟩
def j_sensor_rawErr : TH := mkTH [] []
theorem k_sensor_rawErr (x : denP e_sensor_rawErr.ps) : fnT Try.prog Hn.hints j_sensor_rawErr (tabT [e_sensor_CheckRaw]) 40 115 (ofPms e_sensor_rawErr.ps x) e_sensor_rawErr.rs = e_sensor_rawErr.F x := by kernel_rfl
theorem o_sensor_rawErr : EntryOk Try.prog Hn.hints Lb e_sensor_rawErr := entry_ok (tab_cons o_sensor_CheckRaw tab_nil) hJ 40 _ _ _ _ k_sensor_rawErr
/-- ductility/sensor.channelsErr -/
def sensor_channelsErr (a0 : (List (List Int))) (a1 : Int) (a2 : Int) : Option Int :=
  ((loopO (fun (s2 : Int) =>
        bif decide (s2 < (a0.length : Int)) then
          (idx a0 s2).bind fun x3 =>
          (sensor_rawErr x3).bind fun x4 =>
          (sensor_unless (decide ((x3.length : Int) = a2)) (13 : Int)).bind fun x5 =>
          (sensor_first ([x4, x5])).bind fun x6 =>
          bif !(decide (x6 = 0)) then
            some (.inr (.inr (s2, x6)))
          else
            some (.inl (w64 (s2 + 1)))
        else
          some (.inr (.inl ()))) 0).bind (Sum.elim (fun (p7 : Unit) =>
    some (0, 0)) some)).bind fun (p8 : (Int × Int)) =>
  (sensor_unless (decide ((a0.length : Int) > 0)) (10 : Int)).bind fun x9 =>
  (sensor_unless (decide ((a0.length : Int) ≤ a1)) (8 : Int)).bind fun x10 =>
  (sensor_first ([x9, x10, p8.2])).bind fun x11 =>
  some x11
def e_sensor_channelsErr : Entry := ⟨139, [.ty (.sl (.sl I)), .ty I, .ty I], [(I, 0)], fun x => sensor_channelsErr x.1 x.2.1 x.2.2⟩
def j_sensor_channelsErr : TH := mkTH [([12], 131, .inl 0, { lv := [⟨none, 4, 0⟩, ⟨none, 5, 0⟩], ps := [(I, 0), (I, 0)], D := [4, 5, 6, 7, 8, 9, 10, 11, 12, 13, 14, 15, 16, 17, 18, 19, 20, 21, 22, 23, 24], rs := [⟨0, 5⟩] }),
  ([12], 131, .block 0, { lv := [], ps := [], abn := true, D := [4, 5, 6, 7, 8, 11, 12, 13, 14, 15, 16, 17, 18, 19, 20, 21, 22, 23, 24], rs := [⟨0, 5⟩] }),
  ([12], 131, .loop 0, { lv := [⟨none, 11, 0⟩], ps := [(I, 0)], D := [4, 5, 6, 7, 8, 11, 12, 13, 14, 15, 16, 17, 18, 19, 20, 21, 22, 23, 24], rs := [⟨0, 5⟩] })] []
theorem k_sensor_channelsErr (x : denP e_sensor_channelsErr.ps) : fnT Try.prog Hn.hints j_sensor_channelsErr (tabT [e_sensor_first, e_sensor_rawErr, e_sensor_unless]) 40 139 (ofPms e_sensor_channelsErr.ps x) e_sensor_channelsErr.rs = e_sensor_channelsErr.F x := by kernel_rfl
theorem o_sensor_channelsErr : EntryOk Try.prog Hn.hints Lb e_sensor_channelsErr := entry_ok (tab_cons o_sensor_first (tab_cons o_sensor_rawErr (tab_cons o_sensor_unless tab_nil))) hJ 40 _ _ _ _ k_sensor_channelsErr
/-- ductility/sensor.openWatch -/
def sensor_openWatch (a0 : (List (List Int))) (a1 : (Int × Int × Int × Unit)) : Option ((Int × Int × Int × (List (List Int)) × Unit) × Int) :=
  ((sensor_within a1.1 (0 : Int) (100000 : Int)).bind fun x1 =>
    bif x1 then
      (sensor_within a1.2.1 (1 : Int) (a0.length : Int)).bind fun x2 =>
      bif x2 then
        (sensor_within a1.2.2.1 (1 : Int) (60 : Int)).bind fun x3 =>
        some x3
      else
        some false
    else
      some false).bind fun (p4 : Bool) =>
  (sensor_samplesOf a0).bind fun x5 =>
  (sensor_channelsErr a0 (7 : Int) x5).bind fun x6 =>
  (sensor_unless p4 (2 : Int)).bind fun x7 =>
  (sensor_first ([x6, x7])).bind fun x8 =>
  some ((a1.1, a1.2.1, a1.2.2.1, a0, ()), x8)
def e_sensor_openWatch : Entry := ⟨103, [.ty (.sl (.sl I)), .ty (.pair I (.pair I (.pair I .unit)))], [((.pair I (.pair I (.pair I (.pair (.sl (.sl I)) .unit)))), 0), (I, 0)], fun x => sensor_openWatch x.1 x.2⟩
def j_sensor_openWatch : TH := mkTH [([], 103, .region 1, { lv := [⟨none, 6, 0⟩], ps := [(.bool, 0)], D := [6, 7, 8, 9, 10, 11, 12, 13, 14, 15, 16, 17, 18, 19, 20, 21], rs := [⟨0, 3⟩] })] []
theorem k_sensor_openWatch (x : denP e_sensor_openWatch.ps) : fnT Try.prog Hn.hints j_sensor_openWatch (tabT [e_sensor_channelsErr, e_sensor_first, e_sensor_samplesOf, e_sensor_unless, e_sensor_within]) 40 103 (ofPms e_sensor_openWatch.ps x) e_sensor_openWatch.rs = e_sensor_openWatch.F x := by kernel_rfl
theorem o_sensor_openWatch : EntryOk Try.prog Hn.hints Lb e_sensor_openWatch := entry_ok (tab_cons o_sensor_channelsErr (tab_cons o_sensor_first (tab_cons o_sensor_samplesOf (tab_cons o_sensor_unless (tab_cons o_sensor_within tab_nil))))) hJ 40 _ _ _ _ k_sensor_openWatch
/-- (ductility/sensor.watch).voters -/
def sensor_watch_voters (a0 : (Int × Int × Int × (List (List Int)) × Unit)) (a1 : Int) : Option (List Int) :=
  (loopO (fun (s2 : ((List Int) × Int)) =>
      bif decide (s2.2 < (a0.2.2.2.1.length : Int)) then
        (idx a0.2.2.2.1 s2.2).bind fun x3 =>
        (idx x3 a1).bind fun x4 =>
        (sensor_sized x4 a0.1).bind fun x5 =>
        (bif !x5 then
            (app s2.1 ([s2.2])).bind fun x6 =>
            some x6
          else
            some s2.1).bind fun (p7 : (List Int)) =>
        some (.inl (p7, w64 (s2.2 + 1)))
      else
        some (.inr s2.1)) ([], 0)).bind fun (p8 : (List Int)) =>
  some p8
def e_sensor_watch_voters : Entry := ⟨104, [.ty (.pair I (.pair I (.pair I (.pair (.sl (.sl I)) .unit)))), .ty I], [((.sl I), 1)], fun x => sensor_watch_voters x.1 x.2⟩
def j_sensor_watch_voters : TH := mkTH [([], 104, .block 0, { lv := [⟨none, 5, 0⟩], ps := [((.sl I), 1)], D := [5, 6, 7, 11, 12, 13, 14, 15, 16, 17, 18, 19, 20, 21, 22, 23, 24, 25, 26, 27, 28, 29] }),
  ([], 104, .loop 0, { lv := [⟨none, 5, 0⟩, ⟨none, 11, 0⟩], ps := [((.sl I), 1), (I, 0)], D := [5, 6, 7, 11, 12, 13, 14, 15, 16, 17, 18, 19, 20, 21, 22, 23, 24, 25, 26, 27, 28, 29], rs := [⟨0, 2⟩] }),
  ([], 104, .cond 24, { lv := [⟨none, 5, 0⟩], ps := [((.sl I), 1)], D := [5, 25, 26, 27, 28] })] []
theorem k_sensor_watch_voters (x : denP e_sensor_watch_voters.ps) : fnT Try.prog Hn.hints j_sensor_watch_voters (tabT [e_sensor_sized]) 40 104 (ofPms e_sensor_watch_voters.ps x) e_sensor_watch_voters.rs = e_sensor_watch_voters.F x := by kernel_rfl
theorem o_sensor_watch_voters : EntryOk Try.prog Hn.hints Lb e_sensor_watch_voters := entry_ok (tab_cons o_sensor_sized tab_nil) hJ 40 _ _ _ _ k_sensor_watch_voters
/-- ductility/sensor.TrippedIn -/
def sensor_TrippedIn (a0 : (List (List Int))) (a1 : (Int × Int × Int × Unit)) : Option (Int × Int) :=
  (sensor_openWatch a0 a1).bind fun x1 =>
  bif !(decide (x1.2 = 0)) then
    some (0, x1.2)
  else
    (idx a0 0).bind fun x2 =>
    (loopO (fun (s4 : (Int × Int)) =>
        bif decide (s4.2 < (x2.length : Int)) then
          (sensor_watch_voters x1.1 s4.2).bind fun x5 =>
          (bif decide ((x5.length : Int) < x1.1.2.1) then
              some 0
            else
              some (w64 (s4.1 + 1))).bind fun (p6 : Int) =>
          bif decide (p6 = x1.1.2.2.1) then
            some (.inr (.inr (s4.2, 0)))
          else
            some (.inl (p6, w64 (s4.2 + 1)))
        else
          some (.inr (.inl ()))) (0, 0)).bind (Sum.elim (fun (p7 : Unit) =>
    some (0, 12)) some)
def e_sensor_TrippedIn : Entry := ⟨16, [.ty (.sl (.sl I)), .ty (.pair I (.pair I (.pair I .unit)))], [(I, 0), (I, 0)], fun x => sensor_TrippedIn x.1 x.2⟩
def j_sensor_TrippedIn : TH := mkTH [([], 16, .block 0, { lv := [], ps := [], abn := true, D := [4, 5, 8, 9, 23, 24, 25, 26, 27, 28, 29, 30, 31, 32, 33, 34, 35, 36, 37, 38, 39, 40, 41, 42], rs := [⟨0, 6⟩] }),
  ([], 16, .loop 0, { lv := [⟨none, 8, 0⟩, ⟨none, 23, 0⟩], ps := [(I, 0), (I, 0)], D := [4, 5, 8, 9, 23, 24, 25, 26, 27, 28, 29, 30, 31, 32, 33, 34, 35, 36, 37, 38, 39, 40, 41, 42], rs := [⟨0, 6⟩] }),
  ([], 16, .cond 35, { lv := [⟨none, 8, 0⟩], ps := [(I, 0)], D := [8] })] []
theorem k_sensor_TrippedIn (x : denP e_sensor_TrippedIn.ps) : fnT Try.prog Hn.hints j_sensor_TrippedIn (tabT [e_sensor_openWatch, e_sensor_watch_voters]) 40 16 (ofPms e_sensor_TrippedIn.ps x) e_sensor_TrippedIn.rs = e_sensor_TrippedIn.F x := by kernel_rfl
theorem o_sensor_TrippedIn : EntryOk Try.prog Hn.hints Lb e_sensor_TrippedIn := entry_ok (tab_cons o_sensor_openWatch (tab_cons o_sensor_watch_voters tab_nil)) hJ 40 _ _ _ _ k_sensor_TrippedIn
/-- ductility/sensor.VotersAt -/
def sensor_VotersAt (a0 : (List (List Int))) (a1 : (Int × Int × Int × Unit)) (a2 : Int) : Option ((List Int) × Int) :=
  (sensor_openWatch a0 a1).bind fun x1 =>
  (sensor_samplesOf a0).bind fun x2 =>
  (sensor_within a2 (0 : Int) (w64 (x2 - 1))).bind fun x3 =>
  (sensor_unless x3 (6 : Int)).bind fun x4 =>
  (sensor_first ([x1.2, x4])).bind fun x5 =>
  bif !(decide (x5 = 0)) then
    some ([], x5)
  else
    (sensor_watch_voters x1.1 a2).bind fun x6 =>
    some (x6, 0)
def e_sensor_VotersAt : Entry := ⟨18, [.ty (.sl (.sl I)), .ty (.pair I (.pair I (.pair I .unit))), .ty I], [((.sl I), 1), (I, 0)], fun x => sensor_VotersAt x.1 x.2.1 x.2.2⟩
def j_sensor_VotersAt : TH := mkTH [] []
theorem k_sensor_VotersAt (x : denP e_sensor_VotersAt.ps) : fnT Try.prog Hn.hints j_sensor_VotersAt (tabT [e_sensor_first, e_sensor_openWatch, e_sensor_samplesOf, e_sensor_unless, e_sensor_watch_voters, e_sensor_within]) 40 18 (ofPms e_sensor_VotersAt.ps x) e_sensor_VotersAt.rs = e_sensor_VotersAt.F x := by kernel_rfl
theorem o_sensor_VotersAt : EntryOk Try.prog Hn.hints Lb e_sensor_VotersAt := entry_ok (tab_cons o_sensor_first (tab_cons o_sensor_openWatch (tab_cons o_sensor_samplesOf (tab_cons o_sensor_unless (tab_cons o_sensor_watch_voters (tab_cons o_sensor_within tab_nil)))))) hJ 40 _ _ _ _ k_sensor_VotersAt
/-- ductility/ductilitybase.Within -/
def base_Within (a0 : Int) (a1 : Int) (a2 : Int) : Option Bool :=
  (bif decide (a1 ≤ a0) then
      some (decide (a0 ≤ a2))
    else
      some false).bind fun (p1 : Bool) =>
  some p1
def e_base_Within : Entry := ⟨20, [.ty I, .ty I, .ty I], [(.bool, 0)], fun x => base_Within x.1 x.2.1 x.2.2⟩
def j_base_Within : TH := mkTH [([], 20, .region 1, { lv := [⟨none, 6, 0⟩], ps := [(.bool, 0)], D := [6, 7, 8, 9, 10, 11, 12, 13, 14] })] []
theorem k_base_Within (x : denP e_base_Within.ps) : fnT Try.prog Hn.hints j_base_Within (tabT []) 40 20 (ofPms e_base_Within.ps x) e_base_Within.rs = e_base_Within.F x := by kernel_rfl
theorem o_base_Within : EntryOk Try.prog Hn.hints Lb e_base_Within := entry_ok tab_nil hJ 40 _ _ _ _ k_base_Within
/-- ductility/ductilityref07.CheckRaw -/
def ref07_CheckRaw (a0 : (List Int)) : Option (Int × Int) :=
  bif decide ((a0.length : Int) = 0) then
    some (0, 10)
  else
    bif decide ((a0.length : Int) > 60) then
      some (0, 8)
    else
      (loopO (fun (s2 : Int) =>
          bif decide (s2 < (a0.length : Int)) then
            (idx a0 s2).bind fun x3 =>
            (base_Within x3 (-100000 : Int) (100000 : Int)).bind fun x4 =>
            bif !x4 then
              some (.inr (.inr (s2, 2)))
            else
              some (.inl (w64 (s2 + 1)))
          else
            some (.inr (.inl ()))) 0).bind (Sum.elim (fun (p5 : Unit) =>
      some (0, 0)) some)
def e_ref07_CheckRaw : Entry := ⟨84, [.ty (.sl I)], [(I, 0), (I, 0)], fun x => ref07_CheckRaw x⟩
def j_ref07_CheckRaw : TH := mkTH [([], 84, .block 0, { lv := [], ps := [], abn := true, D := [2, 3, 4, 11, 12, 13, 14, 15, 16, 17, 18, 19, 20, 21, 22, 23] }),
  ([], 84, .loop 0, { lv := [⟨none, 4, 0⟩], ps := [(I, 0)], D := [2, 3, 4, 11, 12, 13, 14, 15, 16, 17, 18, 19, 20, 21, 22, 23] })] []
theorem k_ref07_CheckRaw (x : denP e_ref07_CheckRaw.ps) : fnT Try.prog Hn.hints j_ref07_CheckRaw (tabT [e_base_Within]) 40 84 (ofPms e_ref07_CheckRaw.ps x) e_ref07_CheckRaw.rs = e_ref07_CheckRaw.F x := by kernel_rfl
theorem o_ref07_CheckRaw : EntryOk Try.prog Hn.hints Lb e_ref07_CheckRaw := entry_ok (tab_cons o_base_Within tab_nil) hJ 40 _ _ _ _ k_ref07_CheckRaw
/-- ductility/ductilityref07.RawErr -/
def ref07_RawErr (a0 : (List Int)) : Option Int :=
  (ref07_CheckRaw a0).bind fun x1 =>
  some x1.2
def e_ref07_RawErr : Entry := ⟨39, [.ty (.sl I)], [(I, 0)], fun x => ref07_RawErr x⟩
def j_ref07_RawErr : TH := mkTH [] []
theorem k_ref07_RawErr (x : denP e_ref07_RawErr.ps) : fnT Try.prog Hn.hints j_ref07_RawErr (tabT [e_ref07_CheckRaw]) 40 39 (ofPms e_ref07_RawErr.ps x) e_ref07_RawErr.rs = e_ref07_RawErr.F x := by kernel_rfl
theorem o_ref07_RawErr : EntryOk Try.prog Hn.hints Lb e_ref07_RawErr := entry_ok (tab_cons o_ref07_CheckRaw tab_nil) hJ 40 _ _ _ _ k_ref07_RawErr
/-- ductility/ductilityref07.ChannelsErr -/
def ref07_ChannelsErr (a0 : (List (List Int))) (a1 : Int) : Option Int :=
  bif decide ((a0.length : Int) = 0) then
    some 10
  else
    bif decide ((a0.length : Int) > a1) then
      some 8
    else
      (loopO (fun (s2 : Int) =>
          bif decide (s2 < (a0.length : Int)) then
            (idx a0 s2).bind fun x3 =>
            (ref07_RawErr x3).bind fun x4 =>
            bif !(decide (x4 = 0)) then
              some (.inr (.inr x4))
            else
              (idx a0 s2).bind fun x5 =>
              (idx a0 0).bind fun x6 =>
              bif !(decide ((x5.length : Int) = (x6.length : Int))) then
                some (.inr (.inr 13))
              else
                some (.inl (w64 (s2 + 1)))
          else
            some (.inr (.inl ()))) 0).bind (Sum.elim (fun (p7 : Unit) =>
      some 0) some)
def e_ref07_ChannelsErr : Entry := ⟨77, [.ty (.sl (.sl I)), .ty I], [(I, 0)], fun x => ref07_ChannelsErr x.1 x.2⟩
def j_ref07_ChannelsErr : TH := mkTH [([], 77, .block 0, { lv := [], ps := [], abn := true, D := [4, 5, 6, 14, 15, 16, 17, 18, 19, 20, 21, 22, 23, 24, 25, 26, 27, 28, 29, 30, 31, 32, 33, 34, 35, 36, 37] }),
  ([], 77, .loop 0, { lv := [⟨none, 5, 0⟩], ps := [(I, 0)], D := [4, 5, 6, 14, 15, 16, 17, 18, 19, 20, 21, 22, 23, 24, 25, 26, 27, 28, 29, 30, 31, 32, 33, 34, 35, 36, 37] })] []
theorem k_ref07_ChannelsErr (x : denP e_ref07_ChannelsErr.ps) : fnT Try.prog Hn.hints j_ref07_ChannelsErr (tabT [e_ref07_RawErr]) 40 77 (ofPms e_ref07_ChannelsErr.ps x) e_ref07_ChannelsErr.rs = e_ref07_ChannelsErr.F x := by kernel_rfl
theorem o_ref07_ChannelsErr : EntryOk Try.prog Hn.hints Lb e_ref07_ChannelsErr := entry_ok (tab_cons o_ref07_RawErr tab_nil) hJ 40 _ _ _ _ k_ref07_ChannelsErr
/-- ductility/ductilityref07.WatchErr -/
def ref07_WatchErr (a0 : (List (List Int))) (a1 : (Int × Int × Int × Unit)) : Option Int :=
  (ref07_ChannelsErr a0 (7 : Int)).bind fun x1 =>
  bif !(decide (x1 = 0)) then
    some x1
  else
    ((base_Within a1.1 (0 : Int) (100000 : Int)).bind fun x2 =>
      bif !x2 then
        some true
      else
        (base_Within a1.2.1 (1 : Int) (a0.length : Int)).bind fun x3 =>
        bif !x3 then
          some true
        else
          (base_Within a1.2.2.1 (1 : Int) (60 : Int)).bind fun x4 =>
          some (!x4)).bind fun (p5 : Bool) =>
    bif p5 then
      some 2
    else
      some 0
def e_ref07_WatchErr : Entry := ⟨19, [.ty (.sl (.sl I)), .ty (.pair I (.pair I (.pair I .unit)))], [(I, 0)], fun x => ref07_WatchErr x.1 x.2⟩
def j_ref07_WatchErr : TH := mkTH [([], 19, .region 4, { lv := [⟨none, 28, 0⟩], ps := [(.bool, 0)], D := [11, 12, 13, 14, 15, 16, 17, 18, 19, 20, 21, 22, 23, 24, 25, 26, 27, 28], rs := [⟨0, 3⟩] })] []
theorem k_ref07_WatchErr (x : denP e_ref07_WatchErr.ps) : fnT Try.prog Hn.hints j_ref07_WatchErr (tabT [e_base_Within, e_ref07_ChannelsErr]) 40 19 (ofPms e_ref07_WatchErr.ps x) e_ref07_WatchErr.rs = e_ref07_WatchErr.F x := by kernel_rfl
theorem o_ref07_WatchErr : EntryOk Try.prog Hn.hints Lb e_ref07_WatchErr := entry_ok (tab_cons o_base_Within (tab_cons o_ref07_ChannelsErr tab_nil)) hJ 40 _ _ _ _ k_ref07_WatchErr
/-- ductility/ductilitybase.Size -/
def base_Size (a0 : Int) : Option Int :=
  some (max a0 (w64 (0 - a0)))
def e_base_Size : Entry := ⟨59, [.ty I], [(I, 0)], fun x => base_Size x⟩
def j_base_Size : TH := mkTH [] []
theorem k_base_Size (x : denP e_base_Size.ps) : fnT Try.prog Hn.hints j_base_Size (tabT []) 40 59 (ofPms e_base_Size.ps x) e_base_Size.rs = e_base_Size.F x := by kernel_rfl
theorem o_base_Size : EntryOk Try.prog Hn.hints Lb e_base_Size := entry_ok tab_nil hJ 40 _ _ _ _ k_base_Size
/-- ductility/ductilityref07.Voters -/
def ref07_Voters (a0 : (List (List Int))) (a1 : (Int × Int × Int × Unit)) (a2 : Int) : Option (List Int) :=
  (loopO (fun (s2 : ((List Int) × Int)) =>
      bif decide (s2.2 < (a0.length : Int)) then
        (idx a0 s2.2).bind fun x3 =>
        (idx x3 a2).bind fun x4 =>
        (base_Size x4).bind fun x5 =>
        (bif decide (x5 > a1.1) then
            (app s2.1 ([s2.2])).bind fun x6 =>
            some x6
          else
            some s2.1).bind fun (p7 : (List Int)) =>
        some (.inl (p7, w64 (s2.2 + 1)))
      else
        some (.inr s2.1)) ([], 0)).bind fun (p8 : (List Int)) =>
  some p8
def e_ref07_Voters : Entry := ⟨22, [.ty (.sl (.sl I)), .ty (.pair I (.pair I (.pair I .unit))), .ty I], [((.sl I), 1)], fun x => ref07_Voters x.1 x.2.1 x.2.2⟩
def j_ref07_Voters : TH := mkTH [([], 22, .block 0, { lv := [⟨none, 7, 0⟩], ps := [((.sl I), 1)], D := [7, 8, 9, 10, 11, 12, 13, 14, 15, 16, 17, 18, 19, 20, 21, 22, 23, 24, 25, 26, 27, 28, 29] }),
  ([], 22, .loop 0, { lv := [⟨none, 7, 0⟩, ⟨none, 8, 0⟩], ps := [((.sl I), 1), (I, 0)], D := [7, 8, 9, 10, 11, 12, 13, 14, 15, 16, 17, 18, 19, 20, 21, 22, 23, 24, 25, 26, 27, 28, 29], rs := [⟨0, 4⟩] }),
  ([], 22, .cond 25, { lv := [⟨none, 7, 0⟩], ps := [((.sl I), 1)], D := [7, 26, 27, 28, 29] })] []
theorem k_ref07_Voters (x : denP e_ref07_Voters.ps) : fnT Try.prog Hn.hints j_ref07_Voters (tabT [e_base_Size]) 40 22 (ofPms e_ref07_Voters.ps x) e_ref07_Voters.rs = e_ref07_Voters.F x := by kernel_rfl
theorem o_ref07_Voters : EntryOk Try.prog Hn.hints Lb e_ref07_Voters := entry_ok (tab_cons o_base_Size tab_nil) hJ 40 _ _ _ _ k_ref07_Voters
/-- ductility/ductilitybase.Ints -/
def base_Ints (a0 : (List Int)) (a1 : (List Int)) : Option Bool :=
  bif !(decide ((a0.length : Int) = (a1.length : Int))) then
    some false
  else
    (loopO (fun (s2 : Int) =>
        bif decide (s2 < (a0.length : Int)) then
          (idx a0 s2).bind fun x3 =>
          (idx a1 s2).bind fun x4 =>
          bif !(decide (x3 = x4)) then
            some (.inr (.inr false))
          else
            some (.inl (w64 (s2 + 1)))
        else
          some (.inr (.inl ()))) 0).bind (Sum.elim (fun (p5 : Unit) =>
    some true) some)
def e_base_Ints : Entry := ⟨21, [.ty (.sl I), .ty (.sl I)], [(.bool, 0)], fun x => base_Ints x.1 x.2⟩
def j_base_Ints : TH := mkTH [([], 21, .block 0, { lv := [], ps := [], abn := true, D := [4, 5, 11, 12, 13, 14, 15, 16, 17, 18, 19, 20, 21, 22, 23, 24, 25] }),
  ([], 21, .loop 0, { lv := [⟨none, 5, 0⟩], ps := [(I, 0)], D := [4, 5, 11, 12, 13, 14, 15, 16, 17, 18, 19, 20, 21, 22, 23, 24, 25] })] []
theorem k_base_Ints (x : denP e_base_Ints.ps) : fnT Try.prog Hn.hints j_base_Ints (tabT []) 40 21 (ofPms e_base_Ints.ps x) e_base_Ints.rs = e_base_Ints.F x := by kernel_rfl
theorem o_base_Ints : EntryOk Try.prog Hn.hints Lb e_base_Ints := entry_ok tab_nil hJ 40 _ _ _ _ k_base_Ints
/-- ductility/ductilityref07.Tripped -/
def ref07_Tripped (a0 : (List (List Int))) (a1 : (Int × Int × Int × Unit)) : Option (Int × Bool) :=
  (loopO (fun (s2 : Int) =>
      (idx a0 0).bind fun x3 =>
      bif decide (s2 < (x3.length : Int)) then
        (loopO (fun (s5 : (Bool × Int)) =>
            bif decide (s5.2 ≤ s2) then
              (bif s5.1 then
                  (ref07_Voters a0 a1 s5.2).bind fun x6 =>
                  some (decide ((x6.length : Int) ≥ a1.2.1))
                else
                  some false).bind fun (p7 : Bool) =>
              some (.inl (p7, w64 (s5.2 + 1)))
            else
              some (.inr s5.1)) (true, w64 ((w64 (s2 - a1.2.2.1)) + 1))).bind fun (p8 : Bool) =>
        bif p8 then
          some (.inr (.inr (s2, true)))
        else
          some (.inl (w64 (s2 + 1)))
      else
        some (.inr (.inl ()))) (w64 (a1.2.2.1 - 1))).bind (Sum.elim (fun (p9 : Unit) =>
  some (0, false)) some)
def e_ref07_Tripped : Entry := ⟨23, [.ty (.sl (.sl I)), .ty (.pair I (.pair I (.pair I .unit)))], [(I, 0), (.bool, 0)], fun x => ref07_Tripped x.1 x.2⟩
def j_ref07_Tripped : TH := mkTH [([], 23, .block 0, { lv := [], ps := [], abn := true, D := [4, 5, 6, 7, 8, 12, 13, 14, 15, 16, 17, 18, 19, 20, 21, 22, 23, 24, 25, 26, 27, 28, 29, 30, 31, 32, 33, 34, 35, 36, 37, 38, 39, 40, 41, 42], rs := [⟨0, 3⟩] }),
  ([], 23, .loop 0, { lv := [⟨none, 6, 0⟩], ps := [(I, 0)], D := [4, 5, 6, 7, 8, 12, 13, 14, 15, 16, 17, 18, 19, 20, 21, 22, 23, 24, 25, 26, 27, 28, 29, 30, 31, 32, 33, 34, 35, 36, 37, 38, 39, 40, 41, 42], rs := [⟨0, 3⟩] }),
  ([], 23, .block 2, { lv := [⟨none, 7, 0⟩], ps := [(.bool, 0)], D := [7, 8, 25, 26, 27, 28, 29, 30, 31, 32, 33, 34, 35, 36, 37, 38, 39, 40] }),
  ([], 23, .loop 2, { lv := [⟨none, 7, 0⟩, ⟨none, 8, 0⟩], ps := [(.bool, 0), (I, 0)], D := [7, 8, 25, 26, 27, 28, 29, 30, 31, 32, 33, 34, 35, 36, 37, 38, 39, 40], rs := [⟨0, 3⟩] }),
  ([], 23, .region 8, { lv := [⟨none, 7, 0⟩], ps := [(.bool, 0)], D := [7, 30, 31, 32, 33, 34, 35, 36, 37, 38, 39, 40], rs := [⟨0, 3⟩] })] []
theorem k_ref07_Tripped (x : denP e_ref07_Tripped.ps) : fnT Try.prog Hn.hints j_ref07_Tripped (tabT [e_ref07_Voters]) 40 23 (ofPms e_ref07_Tripped.ps x) e_ref07_Tripped.rs = e_ref07_Tripped.F x := by kernel_rfl
theorem o_ref07_Tripped : EntryOk Try.prog Hn.hints Lb e_ref07_Tripped := entry_ok (tab_cons o_ref07_Voters tab_nil) hJ 40 _ _ _ _ k_ref07_Tripped
/-- ductility/ductilitylaw07.SensorWatches -/
def law07_SensorWatches (a0 : (List (List Int))) (a1 : (Int × Int × Int × Unit)) (a2 : Int) : Option Bool :=
  (law07_awake).bind fun x1 =>
  bif !x1 then
    some false
  else
    (law07_channels a0).bind fun x2 =>
    bif !x2 then
      some true
    else
      (base_CopyLists a0).bind fun x3 =>
      (sensor_TrippedIn x3 a1).bind fun x4 =>
      (base_CopyLists a0).bind fun x5 =>
      (sensor_VotersAt x5 a1 a2).bind fun x6 =>
      (ref07_WatchErr a0 a1).bind fun x7 =>
      bif !(decide (x7 = 0)) then
        (bif decide (x4.2 = x7) then
            bif decide (x6.2 = x7) then
              bif decide (x4.1 = 0) then
                some (decide ((x6.1.length : Int) = 0))
              else
                some false
            else
              some false
          else
            some false).bind fun (p8 : Bool) =>
        some p8
      else
        (idx a0 0).bind fun x9 =>
        (base_Within a2 (0 : Int) (w64 ((x9.length : Int) - 1))).bind fun x10 =>
        (bif !x10 then
            (bif !(decide (x6.2 = 6)) then
                some true
              else
                some (!(decide ((x6.1.length : Int) = 0)))).bind fun (p11 : Bool) =>
            bif p11 then
              some (.inr false)
            else
              some (.inl ())
          else
            (bif !(decide (x6.2 = 0)) then
                some true
              else
                (ref07_Voters a0 a1 a2).bind fun x12 =>
                (base_Ints x6.1 x12).bind fun x13 =>
                some (!x13)).bind fun (p14 : Bool) =>
            bif p14 then
              some (.inr false)
            else
              some (.inl ())).bind (Sum.elim (fun (p15 : Unit) =>
        (ref07_Tripped a0 a1).bind fun x16 =>
        bif !x16.2 then
          (bif decide (x4.2 = 12) then
              some (decide (x4.1 = 0))
            else
              some false).bind fun (p17 : Bool) =>
          some p17
        else
          (bif !(decide (x4.2 = 0)) then
              some true
            else
              some (!(decide (x4.1 = x16.1)))).bind fun (p18 : Bool) =>
          bif p18 then
            some false
          else
            (base_CopyLists a0).bind fun x19 =>
            (sensor_TrippedIn x19 (max (0 : Int) (w64 (a1.1 - 1)), a1.2.1, a1.2.2.1, ())).bind fun x20 =>
            (bif !(decide (x20.2 = 0)) then
                some true
              else
                some (decide (x20.1 > x4.1))).bind fun (p21 : Bool) =>
            bif p21 then
              some false
            else
              (base_CopyLists a0).bind fun x22 =>
              (sensor_TrippedIn x22 (a1.1, max (1 : Int) (w64 (a1.2.1 - 1)), a1.2.2.1, ())).bind fun x23 =>
              (bif !(decide (x23.2 = 0)) then
                  some true
                else
                  some (decide (x23.1 > x4.1))).bind fun (p24 : Bool) =>
              bif p24 then
                some false
              else
                (base_CopyLists a0).bind fun x25 =>
                (sensor_TrippedIn x25 (a1.1, a1.2.1, max (1 : Int) (w64 (a1.2.2.1 - 1)), ())).bind fun x26 =>
                (bif !(decide (x26.2 = 0)) then
                    some true
                  else
                    some (decide (x26.1 > x4.1))).bind fun (p27 : Bool) =>
                bif p27 then
                  some false
                else
                  some true) some)
def e_law07_SensorWatches : Entry := ⟨3, [.ty (.sl (.sl I)), .ty (.pair I (.pair I (.pair I .unit))), .ty I], [(.bool, 0)], fun x => law07_SensorWatches x.1 x.2.1 x.2.2⟩
def j_law07_SensorWatches : TH := mkTH [([], 3, .region 9, { lv := [⟨none, 6, 0⟩], ps := [(.bool, 0)], D := [6, 43, 44, 45, 46, 47, 48, 49, 50, 51, 52, 53, 54, 55, 56, 57, 58, 59] }),
  ([], 3, .cond 67, { lv := [], ps := [], abn := true, D := [68, 69, 70, 71, 72, 73, 74, 75, 76, 77, 78, 79, 80, 81, 82, 83, 84, 85] }),
  ([], 3, .region 11, { lv := [⟨none, 74, 0⟩], ps := [(.bool, 0)], D := [68, 69, 70, 71, 72, 73, 74] }),
  ([], 3, .region 13, { lv := [⟨none, 85, 0⟩], ps := [(.bool, 0)], D := [75, 76, 77, 78, 79, 80, 81, 82, 83, 84, 85] }),
  ([], 3, .region 17, { lv := [⟨none, 6, 0⟩], ps := [(.bool, 0)], D := [6, 94, 95, 96, 97, 98, 99] }),
  ([], 3, .region 18, { lv := [⟨none, 106, 0⟩], ps := [(.bool, 0)], D := [100, 101, 102, 103, 104, 105, 106] }),
  ([], 3, .region 26, { lv := [⟨none, 148, 0⟩], ps := [(.bool, 0)], D := [142, 143, 144, 145, 146, 147, 148] })] []
theorem k_law07_SensorWatches (x : denP e_law07_SensorWatches.ps) : fnT Try.prog Hn.hints j_law07_SensorWatches (tabT [e_base_CopyLists, e_base_Ints, e_base_Within, e_law07_awake, e_law07_channels, e_ref07_Tripped, e_ref07_Voters, e_ref07_WatchErr, e_sensor_TrippedIn, e_sensor_VotersAt]) 40 3 (ofPms e_law07_SensorWatches.ps x) e_law07_SensorWatches.rs = e_law07_SensorWatches.F x := by kernel_rfl
theorem o_law07_SensorWatches : EntryOk Try.prog Hn.hints Lb e_law07_SensorWatches := entry_ok (tab_cons o_base_CopyLists (tab_cons o_base_Ints (tab_cons o_base_Within (tab_cons o_law07_awake (tab_cons o_law07_channels (tab_cons o_ref07_Tripped (tab_cons o_ref07_Voters (tab_cons o_ref07_WatchErr (tab_cons o_sensor_TrippedIn (tab_cons o_sensor_VotersAt tab_nil)))))))))) hJ 40 _ _ _ _ k_law07_SensorWatches
/-- ductility/sensor.ShiftOf -/
def sensor_ShiftOf (a0 : (List Int)) (a1 : (List Int)) (a2 : Int) : Option (Int × Int) :=
  (sensor_rawErr a0).bind fun x1 =>
  (sensor_rawErr a1).bind fun x2 =>
  (sensor_unless (decide ((a0.length : Int) = (a1.length : Int))) (13 : Int)).bind fun x3 =>
  (sensor_within a2 (0 : Int) (20 : Int)).bind fun x4 =>
  (sensor_unless x4 (2 : Int)).bind fun x5 =>
  (sensor_first ([x1, x2, x3, x5])).bind fun x6 =>
  bif !(decide (x6 = 0)) then
    some (0, x6)
  else
    (loopO (fun (s8 : (Int × Int)) =>
        bif decide (s8.2 < min (a0.length : Int) (w64 ((a1.length : Int) - 0))) then
          (idx a0 s8.2).bind fun x9 =>
          (idx a1 (w64 (s8.2 + 0))).bind fun x10 =>
          some (.inl (w64 (s8.1 + (w64 (x9 * x10))), w64 (s8.2 + 1)))
        else
          some (.inr s8.1)) (0, 0)).bind fun (p11 : Int) =>
    (loopO (fun (s13 : (Int × Int × Int)) =>
        bif decide (s13.2.2 < a2) then
          (loopO (fun (s15 : (Int × Int)) =>
              let v16 : Int := min (a0.length : Int) (w64 ((a1.length : Int) - (w64 ((w64 (0 - s13.2.2)) - 1))))
              bif decide (s15.2 < v16) then
                (idx a0 s15.2).bind fun x17 =>
                (idx a1 (w64 (s15.2 + (w64 ((w64 (0 - s13.2.2)) - 1))))).bind fun x18 =>
                some (.inl (w64 (s15.1 + (w64 (x17 * x18))), w64 (s15.2 + 1)))
              else
                some (.inr s15.1)) (0, max (0 : Int) (w64 (0 - (w64 ((w64 (0 - s13.2.2)) - 1)))))).bind fun (p19 : Int) =>
          (bif decide (p19 > s13.2.1) then
              some (w64 ((w64 (0 - s13.2.2)) - 1), p19)
            else
              some (s13.1, s13.2.1)).bind fun (p20 : (Int × Int)) =>
          (loopO (fun (s22 : (Int × Int)) =>
              let v23 : Bool := decide (s22.2 < min (a0.length : Int) (w64 ((a1.length : Int) - (w64 (s13.2.2 + 1)))))
              bif v23 then
                (idx a0 s22.2).bind fun x24 =>
                (idx a1 (w64 (s22.2 + (w64 (s13.2.2 + 1))))).bind fun x25 =>
                some (.inl (w64 (s22.1 + (w64 (x24 * x25))), w64 (s22.2 + 1)))
              else
                some (.inr s22.1)) (0, max (0 : Int) (w64 (0 - (w64 (s13.2.2 + 1)))))).bind fun (p26 : Int) =>
          (bif decide (p26 > p20.2) then
              some (w64 (s13.2.2 + 1), p26)
            else
              some (p20.1, p20.2)).bind fun (p27 : (Int × Int)) =>
          some (.inl (p27.1, p27.2, w64 (s13.2.2 + 1)))
        else
          some (.inr s13.1)) (0, p11, 0)).bind fun (p28 : Int) =>
    some (p28, 0)
def e_sensor_ShiftOf : Entry := ⟨35, [.ty (.sl I), .ty (.sl I), .ty I], [(I, 0), (I, 0)], fun x => sensor_ShiftOf x.1 x.2.1 x.2.2⟩
def j_sensor_ShiftOf : TH := mkTH [([36], 116, .block 0, { lv := [⟨none, 5, 0⟩], ps := [(I, 0)], D := [5, 6, 10, 11, 12, 13, 14, 15, 16, 17, 18, 19, 20, 21, 22, 23, 24, 25, 26, 27, 28, 29, 30, 31, 32, 33] }),
  ([36], 116, .loop 0, { lv := [⟨none, 5, 0⟩, ⟨none, 6, 0⟩], ps := [(I, 0), (I, 0)], D := [5, 6, 10, 11, 12, 13, 14, 15, 16, 17, 18, 19, 20, 21, 22, 23, 24, 25, 26, 27, 28, 29, 30, 31, 32, 33] }),
  ([], 35, .block 0, { lv := [⟨none, 10, 0⟩], ps := [(I, 0)], D := [10, 11, 12, 14, 15, 38, 39, 40, 41, 42, 43, 44, 45, 46, 47, 48, 49, 50, 51, 52, 53, 54, 55, 56, 57, 58, 59] }),
  ([], 35, .loop 0, { lv := [⟨none, 10, 0⟩, ⟨none, 11, 0⟩, ⟨none, 38, 0⟩], ps := [(I, 0), (I, 0), (I, 0)], D := [10, 11, 12, 14, 15, 38, 39, 40, 41, 42, 43, 44, 45, 46, 47, 48, 49, 50, 51, 52, 53, 54, 55, 56, 57, 58, 59] }),
  ([52], 116, .block 0, { lv := [⟨none, 5, 0⟩], ps := [(I, 0)], D := [5, 6, 10, 11, 12, 13, 14, 15, 16, 17, 18, 19, 20, 21, 22, 23, 24, 25, 26, 27, 28, 29, 30, 31, 32, 33] }),
  ([52], 116, .loop 0, { lv := [⟨none, 5, 0⟩, ⟨none, 6, 0⟩], ps := [(I, 0), (I, 0)], D := [5, 6, 10, 11, 12, 13, 14, 15, 16, 17, 18, 19, 20, 21, 22, 23, 24, 25, 26, 27, 28, 29, 30, 31, 32, 33] }),
  ([], 35, .cond 55, { lv := [⟨none, 10, 0⟩, ⟨none, 11, 0⟩], ps := [(I, 0), (I, 0)], D := [10, 11, 56, 57] })] []
theorem k_sensor_ShiftOf (x : denP e_sensor_ShiftOf.ps) : fnT Try.prog Hn.hints j_sensor_ShiftOf (tabT [e_sensor_first, e_sensor_rawErr, e_sensor_unless, e_sensor_within]) 40 35 (ofPms e_sensor_ShiftOf.ps x) e_sensor_ShiftOf.rs = e_sensor_ShiftOf.F x := by kernel_rfl
theorem o_sensor_ShiftOf : EntryOk Try.prog Hn.hints Lb e_sensor_ShiftOf := entry_ok (tab_cons o_sensor_first (tab_cons o_sensor_rawErr (tab_cons o_sensor_unless (tab_cons o_sensor_within tab_nil)))) hJ 40 _ _ _ _ k_sensor_ShiftOf
/-- ductility/sensor.curve -/
def sensor_curve (a0 : (List Int)) (a1 : Int) : Option Int :=
  (idx a0 (w64 (a1 - 1))).bind fun x1 =>
  (idx a0 a1).bind fun x2 =>
  (idx a0 (w64 (a1 + 1))).bind fun x3 =>
  some (w64 ((w64 (x1 - (w64 (2 * x2)))) + x3))
def e_sensor_curve : Entry := ⟨117, [.ty (.sl I), .ty I], [(I, 0)], fun x => sensor_curve x.1 x.2⟩
def j_sensor_curve : TH := mkTH [] []
theorem k_sensor_curve (x : denP e_sensor_curve.ps) : fnT Try.prog Hn.hints j_sensor_curve (tabT []) 40 117 (ofPms e_sensor_curve.ps x) e_sensor_curve.rs = e_sensor_curve.F x := by kernel_rfl
theorem o_sensor_curve : EntryOk Try.prog Hn.hints Lb e_sensor_curve := entry_ok tab_nil hJ 40 _ _ _ _ k_sensor_curve
/-- ductility/sensor.CurvesOf -/
def sensor_CurvesOf (a0 : (List Int)) : Option ((List Int) × Int) :=
  (sensor_rawErr a0).bind fun x1 =>
  (sensor_unless (decide ((a0.length : Int) > 2)) (12 : Int)).bind fun x2 =>
  (sensor_first ([x1, x2])).bind fun x3 =>
  bif !(decide (x3 = 0)) then
    some ([], x3)
  else
    (loopO (fun (s6 : ((List Int) × Int)) =>
        bif decide (s6.2 < w64 ((a0.length : Int) - 1)) then
          (sensor_curve a0 s6.2).bind fun x7 =>
          (app s6.1 ([x7])).bind fun x8 =>
          some (.inl (x8, w64 (s6.2 + 1)))
        else
          some (.inr s6.1)) ([], 1)).bind fun (p9 : (List Int)) =>
    some (p9, 0)
def e_sensor_CurvesOf : Entry := ⟨37, [.ty (.sl I)], [((.sl I), 1), (I, 0)], fun x => sensor_CurvesOf x⟩
def j_sensor_CurvesOf : TH := mkTH [([], 37, .block 0, { lv := [⟨none, 5, 0⟩], ps := [((.sl I), 1)], D := [5, 6, 18, 19, 20, 21, 22, 23, 24, 25, 26, 27, 28, 29, 30] }),
  ([], 37, .loop 0, { lv := [⟨none, 5, 0⟩, ⟨none, 6, 0⟩], ps := [((.sl I), 1), (I, 0)], D := [5, 6, 18, 19, 20, 21, 22, 23, 24, 25, 26, 27, 28, 29, 30] })] []
theorem k_sensor_CurvesOf (x : denP e_sensor_CurvesOf.ps) : fnT Try.prog Hn.hints j_sensor_CurvesOf (tabT [e_sensor_curve, e_sensor_first, e_sensor_rawErr, e_sensor_unless]) 40 37 (ofPms e_sensor_CurvesOf.ps x) e_sensor_CurvesOf.rs = e_sensor_CurvesOf.F x := by kernel_rfl
theorem o_sensor_CurvesOf : EntryOk Try.prog Hn.hints Lb e_sensor_CurvesOf := entry_ok (tab_cons o_sensor_curve (tab_cons o_sensor_first (tab_cons o_sensor_rawErr (tab_cons o_sensor_unless tab_nil)))) hJ 40 _ _ _ _ k_sensor_CurvesOf
/-- ductility/sensor.StrangeIn -/
def sensor_StrangeIn (a0 : (List Int)) (a1 : (List Int)) (a2 : Int) : Option ((List Int) × Int) :=
  (sensor_rawErr a0).bind fun x1 =>
  (sensor_rawErr a1).bind fun x2 =>
  (sensor_unless (decide ((a0.length : Int) = (a1.length : Int))) (13 : Int)).bind fun x3 =>
  (sensor_within a2 (0 : Int) (100000 : Int)).bind fun x4 =>
  (sensor_unless x4 (2 : Int)).bind fun x5 =>
  (sensor_first ([x1, x2, x3, x5])).bind fun x6 =>
  bif !(decide (x6 = 0)) then
    some ([], x6)
  else
    (loopO (fun (s8 : ((List Int) × Int)) =>
        bif decide (s8.2 < w64 ((a0.length : Int) - 1)) then
          (sensor_curve a0 s8.2).bind fun x9 =>
          (idx a1 s8.2).bind fun x10 =>
          (sensor_sized (w64 (x9 - x10)) a2).bind fun x11 =>
          (bif !x11 then
              (app s8.1 ([s8.2])).bind fun x12 =>
              some x12
            else
              some s8.1).bind fun (p13 : (List Int)) =>
          some (.inl (p13, w64 (s8.2 + 1)))
        else
          some (.inr s8.1)) ([], 1)).bind fun (p14 : (List Int)) =>
    some (p14, 0)
def e_sensor_StrangeIn : Entry := ⟨38, [.ty (.sl I), .ty (.sl I), .ty I], [((.sl I), 1), (I, 0)], fun x => sensor_StrangeIn x.1 x.2.1 x.2.2⟩
def j_sensor_StrangeIn : TH := mkTH [([], 38, .block 0, { lv := [⟨none, 9, 0⟩], ps := [((.sl I), 1)], D := [9, 10, 29, 30, 31, 32, 33, 34, 35, 36, 37, 38, 39, 40, 41, 42, 43, 44, 45, 46, 47, 48, 49, 50] }),
  ([], 38, .loop 0, { lv := [⟨none, 9, 0⟩, ⟨none, 10, 0⟩], ps := [((.sl I), 1), (I, 0)], D := [9, 10, 29, 30, 31, 32, 33, 34, 35, 36, 37, 38, 39, 40, 41, 42, 43, 44, 45, 46, 47, 48, 49, 50] }),
  ([], 38, .cond 46, { lv := [⟨none, 9, 0⟩], ps := [((.sl I), 1)], D := [9, 47, 48, 49, 50] })] []
theorem k_sensor_StrangeIn (x : denP e_sensor_StrangeIn.ps) : fnT Try.prog Hn.hints j_sensor_StrangeIn (tabT [e_sensor_curve, e_sensor_first, e_sensor_rawErr, e_sensor_sized, e_sensor_unless, e_sensor_within]) 40 38 (ofPms e_sensor_StrangeIn.ps x) e_sensor_StrangeIn.rs = e_sensor_StrangeIn.F x := by kernel_rfl
theorem o_sensor_StrangeIn : EntryOk Try.prog Hn.hints Lb e_sensor_StrangeIn := entry_ok (tab_cons o_sensor_curve (tab_cons o_sensor_first (tab_cons o_sensor_rawErr (tab_cons o_sensor_sized (tab_cons o_sensor_unless (tab_cons o_sensor_within tab_nil)))))) hJ 40 _ _ _ _ k_sensor_StrangeIn
/-- ductility/ductilityref07.Curves -/
def ref07_Curves (a0 : (List Int)) : Option (List Int) :=
  (loopO (fun (s3 : ((List Int) × Int)) =>
      bif decide (w64 (s3.2 + 1) < (a0.length : Int)) then
        (idx a0 (w64 (s3.2 - 1))).bind fun x4 =>
        (idx a0 s3.2).bind fun x5 =>
        (idx a0 (w64 (s3.2 + 1))).bind fun x6 =>
        (app s3.1 ([w64 ((w64 (x4 - (w64 (2 * x5)))) + x6)])).bind fun x7 =>
        some (.inl (x7, w64 (s3.2 + 1)))
      else
        some (.inr s3.1)) ([], 1)).bind fun (p8 : (List Int)) =>
  some p8
def e_ref07_Curves : Entry := ⟨40, [.ty (.sl I)], [((.sl I), 1)], fun x => ref07_Curves x⟩
def j_ref07_Curves : TH := mkTH [([], 40, .block 0, { lv := [⟨none, 3, 0⟩], ps := [((.sl I), 1)], D := [3, 4, 5, 6, 7, 8, 9, 10, 11, 12, 13, 14, 15, 16, 17, 18, 19, 20, 21, 22, 23, 24, 25, 26, 27, 28, 29, 30, 31] }),
  ([], 40, .loop 0, { lv := [⟨none, 3, 0⟩, ⟨none, 4, 0⟩], ps := [((.sl I), 1), (I, 0)], D := [3, 4, 5, 6, 7, 8, 9, 10, 11, 12, 13, 14, 15, 16, 17, 18, 19, 20, 21, 22, 23, 24, 25, 26, 27, 28, 29, 30, 31] })] []
theorem k_ref07_Curves (x : denP e_ref07_Curves.ps) : fnT Try.prog Hn.hints j_ref07_Curves (tabT []) 40 40 (ofPms e_ref07_Curves.ps x) e_ref07_Curves.rs = e_ref07_Curves.F x := by kernel_rfl
theorem o_ref07_Curves : EntryOk Try.prog Hn.hints Lb e_ref07_Curves := entry_ok tab_nil hJ 40 _ _ _ _ k_ref07_Curves
/-- ductility/ductilityref07.ShiftErr -/
def ref07_ShiftErr (a0 : (List Int)) (a1 : (List Int)) (a2 : Int) (a3 : Int) : Option Int :=
  (ref07_RawErr a0).bind fun x1 =>
  bif !(decide (x1 = 0)) then
    some x1
  else
    (ref07_RawErr a1).bind fun x2 =>
    bif !(decide (x2 = 0)) then
      some x2
    else
      bif !(decide ((a0.length : Int) = (a1.length : Int))) then
        some 13
      else
        (base_Within a2 (0 : Int) a3).bind fun x3 =>
        bif !x3 then
          some 2
        else
          some 0
def e_ref07_ShiftErr : Entry := ⟨41, [.ty (.sl I), .ty (.sl I), .ty I, .ty I], [(I, 0)], fun x => ref07_ShiftErr x.1 x.2.1 x.2.2.1 x.2.2.2⟩
def j_ref07_ShiftErr : TH := mkTH [] []
theorem k_ref07_ShiftErr (x : denP e_ref07_ShiftErr.ps) : fnT Try.prog Hn.hints j_ref07_ShiftErr (tabT [e_base_Within, e_ref07_RawErr]) 40 41 (ofPms e_ref07_ShiftErr.ps x) e_ref07_ShiftErr.rs = e_ref07_ShiftErr.F x := by kernel_rfl
theorem o_ref07_ShiftErr : EntryOk Try.prog Hn.hints Lb e_ref07_ShiftErr := entry_ok (tab_cons o_base_Within (tab_cons o_ref07_RawErr tab_nil)) hJ 40 _ _ _ _ k_ref07_ShiftErr
/-- ductility/ductilityref07.SumAt -/
def ref07_SumAt (a0 : (List Int)) (a1 : (List Int)) (a2 : Int) : Option Int :=
  (loopO (fun (s2 : (Int × Int)) =>
      bif decide (s2.2 < (a0.length : Int)) then
        (base_Within (w64 (s2.2 + a2)) (0 : Int) (w64 ((a1.length : Int) - 1))).bind fun x3 =>
        (bif x3 then
            (idx a0 s2.2).bind fun x4 =>
            (idx a1 (w64 (s2.2 + a2))).bind fun x5 =>
            some (w64 (s2.1 + (w64 (x4 * x5))))
          else
            some s2.1).bind fun (p6 : Int) =>
        some (.inl (p6, w64 (s2.2 + 1)))
      else
        some (.inr s2.1)) (0, 0)).bind fun (p7 : Int) =>
  some p7
def e_ref07_SumAt : Entry := ⟨44, [.ty (.sl I), .ty (.sl I), .ty I], [(I, 0)], fun x => ref07_SumAt x.1 x.2.1 x.2.2⟩
def j_ref07_SumAt : TH := mkTH [([], 44, .block 0, { lv := [⟨none, 7, 0⟩], ps := [(I, 0)], D := [7, 8, 9, 10, 11, 12, 13, 14, 15, 16, 17, 18, 19, 20, 21, 22, 23, 24, 25, 26, 27, 28, 29, 30, 31, 32, 33, 34] }),
  ([], 44, .loop 0, { lv := [⟨none, 7, 0⟩, ⟨none, 8, 0⟩], ps := [(I, 0), (I, 0)], D := [7, 8, 9, 10, 11, 12, 13, 14, 15, 16, 17, 18, 19, 20, 21, 22, 23, 24, 25, 26, 27, 28, 29, 30, 31, 32, 33, 34] }),
  ([], 44, .cond 21, { lv := [⟨none, 7, 0⟩], ps := [(I, 0)], D := [7, 22, 23, 24, 25, 26, 27, 28, 29, 30, 31, 32, 33, 34] })] []
theorem k_ref07_SumAt (x : denP e_ref07_SumAt.ps) : fnT Try.prog Hn.hints j_ref07_SumAt (tabT [e_base_Within]) 40 44 (ofPms e_ref07_SumAt.ps x) e_ref07_SumAt.rs = e_ref07_SumAt.F x := by kernel_rfl
theorem o_ref07_SumAt : EntryOk Try.prog Hn.hints Lb e_ref07_SumAt := entry_ok (tab_cons o_base_Within tab_nil) hJ 40 _ _ _ _ k_ref07_SumAt
/-- ductility/ductilityref07.Shift -/
def ref07_Shift (a0 : (List Int)) (a1 : (List Int)) (a2 : Int) : Option Int :=
  (loopO (fun (s2 : (Int × Int)) =>
      bif decide (s2.2 ≤ a2) then
        (ref07_SumAt a0 a1 s2.2).bind fun x3 =>
        (ref07_SumAt a0 a1 s2.1).bind fun x4 =>
        (bif decide (x3 > x4) then
            some true
          else
            bif decide (x3 = x4) then
              (base_Size s2.2).bind fun x5 =>
              (base_Size s2.1).bind fun x6 =>
              bif decide (x5 < x6) then
                some true
              else
                (base_Size s2.2).bind fun x7 =>
                (base_Size s2.1).bind fun x8 =>
                bif decide (x7 = x8) then
                  some (decide (s2.2 < s2.1))
                else
                  some false
            else
              some false).bind fun (p9 : Bool) =>
        (bif p9 then
            some s2.2
          else
            some s2.1).bind fun (p10 : Int) =>
        some (.inl (p10, w64 (s2.2 + 1)))
      else
        some (.inr s2.1)) (0, w64 (0 - a2))).bind fun (p11 : Int) =>
  some p11
def e_ref07_Shift : Entry := ⟨42, [.ty (.sl I), .ty (.sl I), .ty I], [(I, 0)], fun x => ref07_Shift x.1 x.2.1 x.2.2⟩
def j_ref07_Shift : TH := mkTH [([], 42, .block 0, { lv := [⟨none, 7, 0⟩], ps := [(I, 0)], D := [7, 8, 9, 10, 13, 14, 15, 16, 17, 18, 19, 20, 21, 22, 23, 24, 25, 26, 27, 28, 29, 30, 31, 32, 33, 34, 35, 36, 37, 38, 39, 40, 41, 42, 43, 44, 45, 46, 47, 48, 49, 50, 51, 52, 53] }),
  ([], 42, .loop 0, { lv := [⟨none, 7, 0⟩, ⟨none, 8, 0⟩], ps := [(I, 0), (I, 0)], D := [7, 8, 9, 10, 13, 14, 15, 16, 17, 18, 19, 20, 21, 22, 23, 24, 25, 26, 27, 28, 29, 30, 31, 32, 33, 34, 35, 36, 37, 38, 39, 40, 41, 42, 43, 44, 45, 46, 47, 48, 49, 50, 51, 52, 53] }),
  ([], 42, .region 6, { lv := [⟨none, 52, 0⟩], ps := [(.bool, 0)], D := [26, 27, 28, 29, 30, 31, 32, 33, 34, 35, 36, 37, 38, 39, 40, 41, 42, 43, 44, 45, 46, 47, 48, 49, 50, 51, 52] }),
  ([], 42, .cond 52, { lv := [⟨none, 7, 0⟩], ps := [(I, 0)], D := [7, 53] })] []
theorem k_ref07_Shift (x : denP e_ref07_Shift.ps) : fnT Try.prog Hn.hints j_ref07_Shift (tabT [e_base_Size, e_ref07_SumAt]) 40 42 (ofPms e_ref07_Shift.ps x) e_ref07_Shift.rs = e_ref07_Shift.F x := by kernel_rfl
theorem o_ref07_Shift : EntryOk Try.prog Hn.hints Lb e_ref07_Shift := entry_ok (tab_cons o_base_Size (tab_cons o_ref07_SumAt tab_nil)) hJ 40 _ _ _ _ k_ref07_Shift
/-- ductility/ductilityref07.Strange -/
def ref07_Strange (a0 : (List Int)) (a1 : (List Int)) (a2 : Int) : Option (List Int) :=
  (ref07_Curves a0).bind fun x1 =>
  (loopO (fun (s3 : ((List Int) × Int)) =>
      bif decide (s3.2 < (x1.length : Int)) then
        (idx x1 s3.2).bind fun x4 =>
        (idx a1 (w64 (s3.2 + 1))).bind fun x5 =>
        (base_Size (w64 (x4 - x5))).bind fun x6 =>
        (bif decide (x6 > a2) then
            (app s3.1 ([w64 (s3.2 + 1)])).bind fun x7 =>
            some x7
          else
            some s3.1).bind fun (p8 : (List Int)) =>
        some (.inl (p8, w64 (s3.2 + 1)))
      else
        some (.inr s3.1)) ([], 0)).bind fun (p9 : (List Int)) =>
  some p9
def e_ref07_Strange : Entry := ⟨43, [.ty (.sl I), .ty (.sl I), .ty I], [((.sl I), 1)], fun x => ref07_Strange x.1 x.2.1 x.2.2⟩
def j_ref07_Strange : TH := mkTH [([], 43, .block 0, { lv := [⟨none, 8, 0⟩], ps := [((.sl I), 1)], D := [8, 9, 12, 13, 14, 15, 16, 17, 18, 19, 20, 21, 22, 23, 24, 25, 26, 27, 28, 29, 30, 31, 32, 33, 34, 35] }),
  ([], 43, .loop 0, { lv := [⟨none, 8, 0⟩, ⟨none, 9, 0⟩], ps := [((.sl I), 1), (I, 0)], D := [8, 9, 12, 13, 14, 15, 16, 17, 18, 19, 20, 21, 22, 23, 24, 25, 26, 27, 28, 29, 30, 31, 32, 33, 34, 35] }),
  ([], 43, .cond 30, { lv := [⟨none, 8, 0⟩], ps := [((.sl I), 1)], D := [8, 31, 32, 33, 34, 35] })] []
theorem k_ref07_Strange (x : denP e_ref07_Strange.ps) : fnT Try.prog Hn.hints j_ref07_Strange (tabT [e_base_Size, e_ref07_Curves]) 40 43 (ofPms e_ref07_Strange.ps x) e_ref07_Strange.rs = e_ref07_Strange.F x := by kernel_rfl
theorem o_ref07_Strange : EntryOk Try.prog Hn.hints Lb e_ref07_Strange := entry_ok (tab_cons o_base_Size (tab_cons o_ref07_Curves tab_nil)) hJ 40 _ _ _ _ k_ref07_Strange
/-- ductility/ductilitylaw07.SensorShifts -/
def law07_SensorShifts (a0 : (List Int)) (a1 : (List Int)) (a2 : (Int × Int × Unit)) : Option Bool :=
  (law07_awake).bind fun x1 =>
  bif !x1 then
    some false
  else
    ((law07_samples a0).bind fun x2 =>
      bif !x2 then
        some true
      else
        (law07_samples a1).bind fun x3 =>
        some (!x3)).bind fun (p4 : Bool) =>
    bif p4 then
      some true
    else
      (base_CopyInts a0).bind fun x5 =>
      (base_CopyInts a1).bind fun x6 =>
      (sensor_ShiftOf x5 x6 a2.1).bind fun x7 =>
      (base_CopyInts a0).bind fun x8 =>
      (sensor_CurvesOf x8).bind fun x9 =>
      (base_CopyInts a0).bind fun x10 =>
      (base_CopyInts a1).bind fun x11 =>
      (sensor_StrangeIn x10 x11 a2.2.1).bind fun x12 =>
      (ref07_RawErr a0).bind fun x13 =>
      (bif decide (x13 = 0) then
          some (decide ((a0.length : Int) < 3))
        else
          some false).bind fun (p14 : Bool) =>
      (bif p14 then
          some 12
        else
          some x13).bind fun (p15 : Int) =>
      (bif !(decide (x9.2 = p15)) then
          some true
        else
          bif !(decide (p15 = 0)) then
            bif !(decide ((x9.1.length : Int) = 0)) then
              some true
            else
              bif decide (p15 = 0) then
                (ref07_Curves a0).bind fun x16 =>
                (base_Ints x9.1 x16).bind fun x17 =>
                some (!x17)
              else
                some false
          else
            bif decide (p15 = 0) then
              (ref07_Curves a0).bind fun x18 =>
              (base_Ints x9.1 x18).bind fun x19 =>
              some (!x19)
            else
              some false).bind fun (p20 : Bool) =>
      bif p20 then
        some false
      else
        (ref07_ShiftErr a0 a1 a2.1 (20 : Int)).bind fun x21 =>
        (bif !(decide (x7.2 = x21)) then
            some true
          else
            bif !(decide (x21 = 0)) then
              bif !(decide (x7.1 = 0)) then
                some true
              else
                bif decide (x21 = 0) then
                  (ref07_Shift a0 a1 a2.1).bind fun x22 =>
                  some (!(decide (x7.1 = x22)))
                else
                  some false
            else
              bif decide (x21 = 0) then
                (ref07_Shift a0 a1 a2.1).bind fun x23 =>
                some (!(decide (x7.1 = x23)))
              else
                some false).bind fun (p24 : Bool) =>
        bif p24 then
          some false
        else
          (ref07_ShiftErr a0 a1 a2.2.1 (100000 : Int)).bind fun x25 =>
          (bif decide (x12.2 = x25) then
              bif !(decide (x25 = 0)) then
                bif decide ((x12.1.length : Int) = 0) then
                  some true
                else
                  bif decide (x25 = 0) then
                    (ref07_Strange a0 a1 a2.2.1).bind fun x26 =>
                    (base_Ints x12.1 x26).bind fun x27 =>
                    some x27
                  else
                    some false
              else
                bif decide (x25 = 0) then
                  (ref07_Strange a0 a1 a2.2.1).bind fun x28 =>
                  (base_Ints x12.1 x28).bind fun x29 =>
                  some x29
                else
                  some false
            else
              some false).bind fun (p30 : Bool) =>
          some p30
def e_law07_SensorShifts : Entry := ⟨6, [.ty (.sl I), .ty (.sl I), .ty (.pair I (.pair I .unit))], [(.bool, 0)], fun x => law07_SensorShifts x.1 x.2.1 x.2.2⟩
def j_law07_SensorShifts : TH := mkTH [([], 6, .region 3, { lv := [⟨none, 23, 0⟩], ps := [(.bool, 0)], D := [16, 17, 18, 19, 20, 21, 22, 23] }),
  ([], 6, .region 9, { lv := [⟨none, 58, 0⟩], ps := [(.bool, 0)], D := [52, 53, 54, 55, 56, 57, 58] }),
  ([], 6, .cond 58, { lv := [⟨none, 13, 0⟩], ps := [(I, 0)], D := [13] }),
  ([], 6, .region 11, { lv := [⟨none, 81, 0⟩], ps := [(.bool, 0)], D := [59, 60, 61, 62, 63, 64, 65, 66, 67, 68, 69, 70, 71, 72, 73, 74, 75, 76, 77, 78, 79, 80, 81] }),
  ([], 6, .region 14, { lv := [⟨none, 110, 0⟩], ps := [(.bool, 0)], D := [87, 88, 89, 90, 91, 92, 93, 94, 95, 96, 97, 98, 99, 100, 101, 102, 103, 104, 105, 106, 107, 108, 109, 110], rs := [⟨0, 5⟩] }),
  ([], 6, .region 17, { lv := [⟨none, 6, 0⟩], ps := [(.bool, 0)], D := [6, 116, 117, 118, 119, 120, 121, 122, 123, 124, 125, 126, 127, 128, 129, 130, 131, 132, 133, 134, 135, 136, 137, 138, 139, 140], rs := [⟨0, 5⟩] })] []
theorem k_law07_SensorShifts (x : denP e_law07_SensorShifts.ps) : fnT Try.prog Hn.hints j_law07_SensorShifts (tabT [e_base_CopyInts, e_base_Ints, e_law07_awake, e_law07_samples, e_ref07_Curves, e_ref07_RawErr, e_ref07_Shift, e_ref07_ShiftErr, e_ref07_Strange, e_sensor_CurvesOf, e_sensor_ShiftOf, e_sensor_StrangeIn]) 40 6 (ofPms e_law07_SensorShifts.ps x) e_law07_SensorShifts.rs = e_law07_SensorShifts.F x := by kernel_rfl
theorem o_law07_SensorShifts : EntryOk Try.prog Hn.hints Lb e_law07_SensorShifts := entry_ok (tab_cons o_base_CopyInts (tab_cons o_base_Ints (tab_cons o_law07_awake (tab_cons o_law07_samples (tab_cons o_ref07_Curves (tab_cons o_ref07_RawErr (tab_cons o_ref07_Shift (tab_cons o_ref07_ShiftErr (tab_cons o_ref07_Strange (tab_cons o_sensor_CurvesOf (tab_cons o_sensor_ShiftOf (tab_cons o_sensor_StrangeIn tab_nil)))))))))))) hJ 40 _ _ _ _ k_law07_SensorShifts
end
end Go.Proofs.Ytpiggpgocnlomaa
