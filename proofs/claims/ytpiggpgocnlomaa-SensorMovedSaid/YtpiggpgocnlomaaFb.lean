/-
  TYPED FUNCTIONS (written by gen.py), each with the equation that the kernel checks. Second part.
-/
import Derived.Test.YtpiggpgocnlomaaFa
set_option maxRecDepth 100000
set_option linter.unusedVariables false
namespace Go.Proofs.Ytpiggpgocnlomaa
open Go Go.Ab Go.Tx
noncomputable section
/-- ductility/ductilitybase.Has -/
def base_Has (a0 : (List Int)) (a1 : Int) : Option Bool :=
  (loopO (fun (s2 : Int) =>
      bif decide (s2 < (a0.length : Int)) then
        (idx a0 s2).bind fun x3 =>
        bif decide (x3 = a1) then
          some (.inr (.inr true))
        else
          some (.inl (w64 (s2 + 1)))
      else
        some (.inr (.inl ()))) 0).bind (Sum.elim (fun (p4 : Unit) =>
  some false) some)
def e_base_Has : Entry := ⟨45, [.ty (.sl I), .ty I], [(.bool, 0)], fun x => base_Has x.1 x.2⟩
def j_base_Has : TH := mkTH [([], 45, .block 0, { lv := [], ps := [], abn := true, D := [4, 5, 6, 7, 8, 9, 10, 11, 12, 13, 14, 15, 16, 17] }),
  ([], 45, .loop 0, { lv := [⟨none, 5, 0⟩], ps := [(I, 0)], D := [4, 5, 6, 7, 8, 9, 10, 11, 12, 13, 14, 15, 16, 17] })] []
theorem k_base_Has (x : denP e_base_Has.ps) : fnT Try.prog Hn.hints j_base_Has (tabT []) 40 45 (ofPms e_base_Has.ps x) e_base_Has.rs = e_base_Has.F x := by kernel_rfl
theorem o_base_Has : EntryOk Try.prog Hn.hints Lb e_base_Has := entry_ok tab_nil hJ 40 _ _ _ _ k_base_Has
/-- ductility/ductilitylaw07.SensorMoved -/
def law07_SensorMoved (a0 : (List Int)) (a1 : (List Int)) (a2 : (Int × Int × Unit)) : Option Bool :=
  (law07_awake).bind fun x1 =>
  bif !x1 then
    some false
  else
    ((law07_samples a0).bind fun x2 =>
      bif !x2 then
        some true
      else
        (law07_samples a1).bind fun x3 =>
        bif !x3 then
          some true
        else
          (ref07_ShiftErr a0 a1 a2.1 (20 : Int)).bind fun x4 =>
          bif !(decide (x4 = 0)) then
            some true
          else
            (base_Within a2.2.1 (0 : Int) (3000 : Int)).bind fun x5 =>
            some (!x5)).bind fun (p6 : Bool) =>
    bif p6 then
      some true
    else
      (loopO (fun (s8 : Int) =>
          bif decide (s8 < (a0.length : Int)) then
            ((idx a0 s8).bind fun x9 =>
              (base_Within x9 (-1000 : Int) (1000 : Int)).bind fun x10 =>
              bif !x10 then
                some true
              else
                (idx a1 s8).bind fun x11 =>
                (base_Within x11 (-1000 : Int) (1000 : Int)).bind fun x12 =>
                some (!x12)).bind fun (p13 : Bool) =>
            bif p13 then
              some (.inr (.inr true))
            else
              some (.inl (w64 (s8 + 1)))
          else
            some (.inr (.inl ()))) 0).bind (Sum.elim (fun (p14 : Unit) =>
      (base_CopyInts a0).bind fun x15 =>
      (base_CopyInts a1).bind fun x16 =>
      (sensor_ShiftOf x15 x16 a2.1).bind fun x17 =>
      (bif !(decide (x17.2 = 0)) then
          some true
        else
          (base_Within x17.1 (w64 (0 - a2.1)) a2.1).bind fun x18 =>
          some (!x18)).bind fun (p19 : Bool) =>
      bif p19 then
        some false
      else
        (loopO (fun (s21 : Int) =>
            bif decide (s21 ≤ a2.1) then
              ((ref07_SumAt a0 a1 s21).bind fun x22 =>
                (ref07_SumAt a0 a1 x17.1).bind fun x23 =>
                bif decide (x22 > x23) then
                  some true
                else
                  (ref07_SumAt a0 a1 s21).bind fun x24 =>
                  (ref07_SumAt a1 a0 (w64 (0 - s21))).bind fun x25 =>
                  some (!(decide (x24 = x25)))).bind fun (p26 : Bool) =>
              bif p26 then
                some (.inr (.inr false))
              else
                some (.inl (w64 (s21 + 1)))
            else
              some (.inr (.inl ()))) (w64 (0 - a2.1))).bind (Sum.elim (fun (p27 : Unit) =>
        (base_CopyInts a1).bind fun x28 =>
        (base_CopyInts a0).bind fun x29 =>
        (sensor_ShiftOf x28 x29 a2.1).bind fun x30 =>
        (bif !(decide (x30.2 = 0)) then
            some true
          else
            (base_Within x30.1 (w64 (0 - a2.1)) a2.1).bind fun x31 =>
            bif !x31 then
              some true
            else
              (ref07_SumAt a1 a0 x30.1).bind fun x32 =>
              (ref07_SumAt a0 a1 x17.1).bind fun x33 =>
              some (!(decide (x32 = x33)))).bind fun (p34 : Bool) =>
        bif p34 then
          some false
        else
          (base_CopyInts a0).bind fun x35 =>
          (base_CopyInts a1).bind fun x36 =>
          (sensor_StrangeIn x35 x36 a2.2.1).bind fun x37 =>
          (base_CopyInts a0).bind fun x38 =>
          (base_CopyInts a1).bind fun x39 =>
          (sensor_StrangeIn x38 x39 (w64 (a2.2.1 + 1))).bind fun x40 =>
          (bif !(decide (x37.2 = 0)) then
              some true
            else
              bif !(decide (x40.2 = 0)) then
                some true
              else
                bif decide ((x40.1.length : Int) > (x37.1.length : Int)) then
                  some true
                else
                  some (decide ((x37.1.length : Int) > (a0.length : Int)))).bind fun (p41 : Bool) =>
          bif p41 then
            some false
          else
            (loopO (fun (s43 : Int) =>
                bif decide (s43 < (x40.1.length : Int)) then
                  (idx x40.1 s43).bind fun x44 =>
                  (base_Has x37.1 x44).bind fun x45 =>
                  bif !x45 then
                    some (.inr (.inr false))
                  else
                    some (.inl (w64 (s43 + 1)))
                else
                  some (.inr (.inl ()))) 0).bind (Sum.elim (fun (p46 : Unit) =>
            bif decide ((a0.length : Int) < 3) then
              some true
            else
              (base_CopyInts a0).bind fun x47 =>
              (sensor_CurvesOf x47).bind fun x48 =>
              (bif !(decide (x48.2 = 0)) then
                  some true
                else
                  some (!(decide ((x48.1.length : Int) = w64 ((a0.length : Int) - 2))))).bind fun (p49 : Bool) =>
              bif p49 then
                some false
              else
                (app ([0]) x48.1).bind fun x50 =>
                (app x50 ([0])).bind fun x51 =>
                (base_CopyInts a0).bind fun x52 =>
                (sensor_StrangeIn x52 x51 (0 : Int)).bind fun x53 =>
                (bif decide (x53.2 = 0) then
                    some (decide ((x53.1.length : Int) = 0))
                  else
                    some false).bind fun (p54 : Bool) =>
                some p54) some)) some)) some)
def e_law07_SensorMoved : Entry := ⟨7, [.ty (.sl I), .ty (.sl I), .ty (.pair I (.pair I .unit))], [(.bool, 0)], fun x => law07_SensorMoved x.1 x.2.1 x.2.2⟩
def j_law07_SensorMoved : TH := mkTH [([], 7, .region 3, { lv := [⟨none, 46, 0⟩], ps := [(.bool, 0)], D := [25, 26, 27, 28, 29, 30, 31, 32, 33, 34, 35, 36, 37, 38, 39, 40, 41, 42, 43, 44, 45, 46], rs := [⟨0, 5⟩] }),
  ([], 7, .block 0, { lv := [], ps := [], abn := true, D := [6, 7, 47, 48, 49, 50, 51, 52, 53, 54, 55, 56, 57, 58, 59, 60, 61, 62, 63, 64, 65, 66] }),
  ([], 7, .loop 0, { lv := [⟨none, 7, 0⟩], ps := [(I, 0)], D := [6, 7, 47, 48, 49, 50, 51, 52, 53, 54, 55, 56, 57, 58, 59, 60, 61, 62, 63, 64, 65, 66] }),
  ([], 7, .region 8, { lv := [⟨none, 66, 0⟩], ps := [(.bool, 0)], D := [53, 54, 55, 56, 57, 58, 59, 60, 61, 62, 63, 64, 65, 66] }),
  ([], 7, .region 11, { lv := [⟨none, 88, 0⟩], ps := [(.bool, 0)], D := [77, 78, 79, 80, 81, 82, 83, 84, 85, 86, 87, 88], rs := [⟨0, 5⟩] }),
  ([], 7, .block 2, { lv := [], ps := [], abn := true, D := [6, 10, 92, 93, 94, 95, 96, 97, 98, 99, 100, 101, 102, 103, 104, 105, 106, 107, 108, 109, 110, 111, 112, 113, 114, 115, 116, 117, 118], rs := [⟨0, 5⟩] }),
  ([], 7, .loop 2, { lv := [⟨none, 10, 0⟩], ps := [(I, 0)], D := [6, 10, 92, 93, 94, 95, 96, 97, 98, 99, 100, 101, 102, 103, 104, 105, 106, 107, 108, 109, 110, 111, 112, 113, 114, 115, 116, 117, 118], rs := [⟨0, 5⟩] }),
  ([], 7, .region 16, { lv := [⟨none, 118, 0⟩], ps := [(.bool, 0)], D := [98, 99, 100, 101, 102, 103, 104, 105, 106, 107, 108, 109, 110, 111, 112, 113, 114, 115, 116, 117, 118] }),
  ([], 7, .region 19, { lv := [⟨none, 151, 0⟩], ps := [(.bool, 0)], D := [129, 130, 131, 132, 133, 134, 135, 136, 137, 138, 139, 140, 141, 142, 143, 144, 145, 146, 147, 148, 149, 150, 151], rs := [⟨0, 5⟩] }),
  ([], 7, .region 23, { lv := [⟨none, 192, 0⟩], ps := [(.bool, 0)], D := [173, 174, 175, 176, 177, 178, 179, 180, 181, 182, 183, 184, 185, 186, 187, 188, 189, 190, 191, 192] }),
  ([], 7, .block 4, { lv := [], ps := [], abn := true, D := [6, 17, 193, 194, 195, 196, 197, 198, 199, 200, 201, 202, 203, 204, 205], rs := [⟨0, 5⟩] }),
  ([], 7, .loop 4, { lv := [⟨none, 17, 0⟩], ps := [(I, 0)], D := [6, 17, 193, 194, 195, 196, 197, 198, 199, 200, 201, 202, 203, 204, 205], rs := [⟨0, 5⟩] }),
  ([], 7, .region 33, { lv := [⟨none, 224, 0⟩], ps := [(.bool, 0)], D := [215, 216, 217, 218, 219, 220, 221, 222, 223, 224] }),
  ([], 7, .region 37, { lv := [⟨none, 6, 0⟩], ps := [(.bool, 0)], D := [6, 237, 238, 239, 240, 241, 242, 243] })] []
theorem k_law07_SensorMoved (x : denP e_law07_SensorMoved.ps) : fnT Try.prog Hn.hints j_law07_SensorMoved (tabT [e_base_CopyInts, e_base_Has, e_base_Within, e_law07_awake, e_law07_samples, e_ref07_ShiftErr, e_ref07_SumAt, e_sensor_CurvesOf, e_sensor_ShiftOf, e_sensor_StrangeIn]) 40 7 (ofPms e_law07_SensorMoved.ps x) e_law07_SensorMoved.rs = e_law07_SensorMoved.F x := by kernel_rfl
theorem o_law07_SensorMoved : EntryOk Try.prog Hn.hints Lb e_law07_SensorMoved := entry_ok (tab_cons o_base_CopyInts (tab_cons o_base_Has (tab_cons o_base_Within (tab_cons o_law07_awake (tab_cons o_law07_samples (tab_cons o_ref07_ShiftErr (tab_cons o_ref07_SumAt (tab_cons o_sensor_CurvesOf (tab_cons o_sensor_ShiftOf (tab_cons o_sensor_StrangeIn tab_nil)))))))))) hJ 40 _ _ _ _ k_law07_SensorMoved
end
end Go.Proofs.Ytpiggpgocnlomaa
