/-
  No cell of these rows narrows 'for every input' (looked for: loops, veiled, ifaces, maps, wideKeys, modest, calm, conditions, laid).
  DERIVED. THE GIVEN ROWS OF THIS SEAT. 11 by the template 'for every input the law returns true; each argument reads behind the call as it read before'; 0 by the template 'total and deterministic' (their statements: YtpiggpgocnlomaaTotals.lean).
  GIVEN WITH THE SEED: the statements are not yours to turn. If you find one false, say at which input.
  Laid BY PROGRAM, IN A SANDBOX (cutbox-rows.mjs): the forced cells as the released guide's own fill.sh prints them over the translation 743f7d9029b1877b… (all of the seat's roots in one cut). By AI agents, Wed Nov 11 2026. No macro, syntax, notation, axiom, sorry.
-/
import Derived.Test.YtpiggpgocnlomaaChecked
import GoSem.Claim
import GoSem.ClaimJoined
import GoSem.ClaimMapViews
import Derived.JoinedTies
import Derived.KernelRfl
namespace Go.Proofs.Ytpiggpgocnlomaa
/- THE CELL 'sum', in the pinned program and in every row, IS THE sha256 OF THE DUMP (.gsa) THAT YtpiggpgocnlomaaProg.lean LOADS. Nothing in Lean hashes anything: it is a label: what it is worth is what the hold of that sum in a sandbox is worth. -/
noncomputable def Try.pinned : Pinned := { name := "ytpiggpgocnlomaa", sum := "743f7d9029b1877b0fe787bd3d7e6c58a9933454406efe0523f4b3554a2c1353", checked := Try.checked }
namespace Rows
def none {H : Type} : Left H := { results := [], args := [] }

/-- 'ductilitylaw07.SensorWatches': WHATEVER THE INPUT: true; the input reads as it did. -/
def sensorWatchesSpec : ChangeSpec := { name := "sensorWatches", fn := fun _ => fun
  | [d1, d2, d3] => { results := [.lit (.bool true)], args := [d1, d2, d3] }
  | _ => none }
def sensorWatchesRow : OpenClaim := { program := "ytpiggpgocnlomaa", sum := "743f7d9029b1877b0fe787bd3d7e6c58a9933454406efe0523f4b3554a2c1353", func := "ductility/ductilitylaw07.SensorWatches", spec := "sensorWatches", unfollowed := true, recurses := true, apart := false }
def SensorWatchesSaid : Prop := sensorWatchesRow.holds Try.pinned (OpenSpec.ofChange sensorWatchesSpec)

/-- ITS FALSE NEIGHBOUR: 'it returns false'. Refute it at one input. -/
def sensorWatchesWrong : ChangeSpec := { name := "sensorWatches", fn := fun _ => fun
  | [d1, d2, d3] => { results := [.lit (.bool false)], args := [d1, d2, d3] }
  | _ => none }
def SensorWatchesWrongFalsely : Prop := sensorWatchesRow.holds Try.pinned (OpenSpec.ofChange sensorWatchesWrong)

/-- 'ductilitylaw07.SensorImages': WHATEVER THE INPUT: true; the input reads as it did. -/
def sensorImagesSpec : ChangeSpec := { name := "sensorImages", fn := fun _ => fun
  | [d1, d2] => { results := [.lit (.bool true)], args := [d1, d2] }
  | _ => none }
def sensorImagesRow : OpenClaim := { program := "ytpiggpgocnlomaa", sum := "743f7d9029b1877b0fe787bd3d7e6c58a9933454406efe0523f4b3554a2c1353", func := "ductility/ductilitylaw07.SensorImages", spec := "sensorImages", unfollowed := true, recurses := true, apart := false }
def SensorImagesSaid : Prop := sensorImagesRow.holds Try.pinned (OpenSpec.ofChange sensorImagesSpec)

/-- ITS FALSE NEIGHBOUR: 'it returns false'. Refute it at one input. -/
def sensorImagesWrong : ChangeSpec := { name := "sensorImages", fn := fun _ => fun
  | [d1, d2] => { results := [.lit (.bool false)], args := [d1, d2] }
  | _ => none }
def SensorImagesWrongFalsely : Prop := sensorImagesRow.holds Try.pinned (OpenSpec.ofChange sensorImagesWrong)

/-- 'ductilitylaw07.SensorCenters': WHATEVER THE INPUT: true; the input reads as it did. -/
def sensorCentersSpec : ChangeSpec := { name := "sensorCenters", fn := fun _ => fun
  | [d1, d2, d3] => { results := [.lit (.bool true)], args := [d1, d2, d3] }
  | _ => none }
def sensorCentersRow : OpenClaim := { program := "ytpiggpgocnlomaa", sum := "743f7d9029b1877b0fe787bd3d7e6c58a9933454406efe0523f4b3554a2c1353", func := "ductility/ductilitylaw07.SensorCenters", spec := "sensorCenters", unfollowed := true, recurses := true, apart := false }
def SensorCentersSaid : Prop := sensorCentersRow.holds Try.pinned (OpenSpec.ofChange sensorCentersSpec)

/-- ITS FALSE NEIGHBOUR: 'it returns false'. Refute it at one input. -/
def sensorCentersWrong : ChangeSpec := { name := "sensorCenters", fn := fun _ => fun
  | [d1, d2, d3] => { results := [.lit (.bool false)], args := [d1, d2, d3] }
  | _ => none }
def SensorCentersWrongFalsely : Prop := sensorCentersRow.holds Try.pinned (OpenSpec.ofChange sensorCentersWrong)

/-- 'ductilitylaw07.SensorShifts': WHATEVER THE INPUT: true; the input reads as it did. -/
def sensorShiftsSpec : ChangeSpec := { name := "sensorShifts", fn := fun _ => fun
  | [d1, d2, d3] => { results := [.lit (.bool true)], args := [d1, d2, d3] }
  | _ => none }
def sensorShiftsRow : OpenClaim := { program := "ytpiggpgocnlomaa", sum := "743f7d9029b1877b0fe787bd3d7e6c58a9933454406efe0523f4b3554a2c1353", func := "ductility/ductilitylaw07.SensorShifts", spec := "sensorShifts", unfollowed := true, recurses := true, apart := false }
def SensorShiftsSaid : Prop := sensorShiftsRow.holds Try.pinned (OpenSpec.ofChange sensorShiftsSpec)

/-- ITS FALSE NEIGHBOUR: 'it returns false'. Refute it at one input. -/
def sensorShiftsWrong : ChangeSpec := { name := "sensorShifts", fn := fun _ => fun
  | [d1, d2, d3] => { results := [.lit (.bool false)], args := [d1, d2, d3] }
  | _ => none }
def SensorShiftsWrongFalsely : Prop := sensorShiftsRow.holds Try.pinned (OpenSpec.ofChange sensorShiftsWrong)

/-- 'ductilitylaw07.SensorMoved': WHATEVER THE INPUT: true; the input reads as it did. -/
def sensorMovedSpec : ChangeSpec := { name := "sensorMoved", fn := fun _ => fun
  | [d1, d2, d3] => { results := [.lit (.bool true)], args := [d1, d2, d3] }
  | _ => none }
def sensorMovedRow : OpenClaim := { program := "ytpiggpgocnlomaa", sum := "743f7d9029b1877b0fe787bd3d7e6c58a9933454406efe0523f4b3554a2c1353", func := "ductility/ductilitylaw07.SensorMoved", spec := "sensorMoved", unfollowed := true, recurses := true, apart := false }
def SensorMovedSaid : Prop := sensorMovedRow.holds Try.pinned (OpenSpec.ofChange sensorMovedSpec)

/-- ITS FALSE NEIGHBOUR: 'it returns false'. Refute it at one input. -/
def sensorMovedWrong : ChangeSpec := { name := "sensorMoved", fn := fun _ => fun
  | [d1, d2, d3] => { results := [.lit (.bool false)], args := [d1, d2, d3] }
  | _ => none }
def SensorMovedWrongFalsely : Prop := sensorMovedRow.holds Try.pinned (OpenSpec.ofChange sensorMovedWrong)

/-- 'ductilitylaw07.SensorCalibrations': WHATEVER THE INPUT: true; the input reads as it did. -/
def sensorCalibrationsSpec : ChangeSpec := { name := "sensorCalibrations", fn := fun _ => fun
  | [d1, d2] => { results := [.lit (.bool true)], args := [d1, d2] }
  | _ => none }
def sensorCalibrationsRow : OpenClaim := { program := "ytpiggpgocnlomaa", sum := "743f7d9029b1877b0fe787bd3d7e6c58a9933454406efe0523f4b3554a2c1353", func := "ductility/ductilitylaw07.SensorCalibrations", spec := "sensorCalibrations", unfollowed := true, recurses := true, apart := false }
def SensorCalibrationsSaid : Prop := sensorCalibrationsRow.holds Try.pinned (OpenSpec.ofChange sensorCalibrationsSpec)

/-- ITS FALSE NEIGHBOUR: 'it returns false'. Refute it at one input. -/
def sensorCalibrationsWrong : ChangeSpec := { name := "sensorCalibrations", fn := fun _ => fun
  | [d1, d2] => { results := [.lit (.bool false)], args := [d1, d2] }
  | _ => none }
def SensorCalibrationsWrongFalsely : Prop := sensorCalibrationsRow.holds Try.pinned (OpenSpec.ofChange sensorCalibrationsWrong)

/-- 'ductilitylaw07.SensorEquations': WHATEVER THE INPUT: true; the input reads as it did. -/
def sensorEquationsSpec : ChangeSpec := { name := "sensorEquations", fn := fun _ => fun
  | [d1, d2] => { results := [.lit (.bool true)], args := [d1, d2] }
  | _ => none }
def sensorEquationsRow : OpenClaim := { program := "ytpiggpgocnlomaa", sum := "743f7d9029b1877b0fe787bd3d7e6c58a9933454406efe0523f4b3554a2c1353", func := "ductility/ductilitylaw07.SensorEquations", spec := "sensorEquations", unfollowed := true, recurses := true, apart := false }
def SensorEquationsSaid : Prop := sensorEquationsRow.holds Try.pinned (OpenSpec.ofChange sensorEquationsSpec)

/-- ITS FALSE NEIGHBOUR: 'it returns false'. Refute it at one input. -/
def sensorEquationsWrong : ChangeSpec := { name := "sensorEquations", fn := fun _ => fun
  | [d1, d2] => { results := [.lit (.bool false)], args := [d1, d2] }
  | _ => none }
def SensorEquationsWrongFalsely : Prop := sensorEquationsRow.holds Try.pinned (OpenSpec.ofChange sensorEquationsWrong)

/-- 'ductilitylaw07.SensorExplanations': WHATEVER THE INPUT: true; the input reads as it did. -/
def sensorExplanationsSpec : ChangeSpec := { name := "sensorExplanations", fn := fun _ => fun
  | [d1, d2, d3] => { results := [.lit (.bool true)], args := [d1, d2, d3] }
  | _ => none }
def sensorExplanationsRow : OpenClaim := { program := "ytpiggpgocnlomaa", sum := "743f7d9029b1877b0fe787bd3d7e6c58a9933454406efe0523f4b3554a2c1353", func := "ductility/ductilitylaw07.SensorExplanations", spec := "sensorExplanations", unfollowed := true, recurses := true, apart := false }
def SensorExplanationsSaid : Prop := sensorExplanationsRow.holds Try.pinned (OpenSpec.ofChange sensorExplanationsSpec)

/-- ITS FALSE NEIGHBOUR: 'it returns false'. Refute it at one input. -/
def sensorExplanationsWrong : ChangeSpec := { name := "sensorExplanations", fn := fun _ => fun
  | [d1, d2, d3] => { results := [.lit (.bool false)], args := [d1, d2, d3] }
  | _ => none }
def SensorExplanationsWrongFalsely : Prop := sensorExplanationsRow.holds Try.pinned (OpenSpec.ofChange sensorExplanationsWrong)

/-- 'ductilitylaw07.SensorUndone': WHATEVER THE INPUT: true; the input reads as it did. -/
def sensorUndoneSpec : ChangeSpec := { name := "sensorUndone", fn := fun _ => fun
  | [d1, d2] => { results := [.lit (.bool true)], args := [d1, d2] }
  | _ => none }
def sensorUndoneRow : OpenClaim := { program := "ytpiggpgocnlomaa", sum := "743f7d9029b1877b0fe787bd3d7e6c58a9933454406efe0523f4b3554a2c1353", func := "ductility/ductilitylaw07.SensorUndone", spec := "sensorUndone", unfollowed := true, recurses := true, apart := false }
def SensorUndoneSaid : Prop := sensorUndoneRow.holds Try.pinned (OpenSpec.ofChange sensorUndoneSpec)

/-- ITS FALSE NEIGHBOUR: 'it returns false'. Refute it at one input. -/
def sensorUndoneWrong : ChangeSpec := { name := "sensorUndone", fn := fun _ => fun
  | [d1, d2] => { results := [.lit (.bool false)], args := [d1, d2] }
  | _ => none }
def SensorUndoneWrongFalsely : Prop := sensorUndoneRow.holds Try.pinned (OpenSpec.ofChange sensorUndoneWrong)

/-- 'ductilitylaw07.SensorValues': WHATEVER THE INPUT: true; the input reads as it did. -/
def sensorValuesSpec : ChangeSpec := { name := "sensorValues", fn := fun _ => fun
  | [d1, d2, d3] => { results := [.lit (.bool true)], args := [d1, d2, d3] }
  | _ => none }
def sensorValuesRow : OpenClaim := { program := "ytpiggpgocnlomaa", sum := "743f7d9029b1877b0fe787bd3d7e6c58a9933454406efe0523f4b3554a2c1353", func := "ductility/ductilitylaw07.SensorValues", spec := "sensorValues", unfollowed := true, recurses := true, apart := false }
def SensorValuesSaid : Prop := sensorValuesRow.holds Try.pinned (OpenSpec.ofChange sensorValuesSpec)

/-- ITS FALSE NEIGHBOUR: 'it returns false'. Refute it at one input. -/
def sensorValuesWrong : ChangeSpec := { name := "sensorValues", fn := fun _ => fun
  | [d1, d2, d3] => { results := [.lit (.bool false)], args := [d1, d2, d3] }
  | _ => none }
def SensorValuesWrongFalsely : Prop := sensorValuesRow.holds Try.pinned (OpenSpec.ofChange sensorValuesWrong)

/-- 'ductilitylaw07.SensorFaults': WHATEVER THE INPUT: true; the input reads as it did. -/
def sensorFaultsSpec : ChangeSpec := { name := "sensorFaults", fn := fun _ => fun
  | [d1, d2, d3] => { results := [.lit (.bool true)], args := [d1, d2, d3] }
  | _ => none }
def sensorFaultsRow : OpenClaim := { program := "ytpiggpgocnlomaa", sum := "743f7d9029b1877b0fe787bd3d7e6c58a9933454406efe0523f4b3554a2c1353", func := "ductility/ductilitylaw07.SensorFaults", spec := "sensorFaults", unfollowed := true, recurses := true, apart := false }
def SensorFaultsSaid : Prop := sensorFaultsRow.holds Try.pinned (OpenSpec.ofChange sensorFaultsSpec)

/-- ITS FALSE NEIGHBOUR: 'it returns false'. Refute it at one input. -/
def sensorFaultsWrong : ChangeSpec := { name := "sensorFaults", fn := fun _ => fun
  | [d1, d2, d3] => { results := [.lit (.bool false)], args := [d1, d2, d3] }
  | _ => none }
def SensorFaultsWrongFalsely : Prop := sensorFaultsRow.holds Try.pinned (OpenSpec.ofChange sensorFaultsWrong)

/- THE SECOND FORM. 'bulk': how many values and letters a reading holds, each counted each time it is reached (what is shared counts as often as it is met; a slice's spare places count too). A statement '..UptoSaid' is the law's where the arguments, and the package variables that the reading takes, are together of bulk at most 1048576: NARROWER than '..Said'. Prove '..Said' where nothing that the law and all that it calls make is longer than what came in: it says more and counts as full. Else prove '..UptoSaid'. A law counts once. -/
mutual
def uptoBulk {H : Type} : DataW H → Nat
  | .lit (.string bytes) => bytes.length + 1
  | .lit _ => 1
  | .nil => 1
  | .ptr d => uptoBulk d + 1
  | .slice elems spare => uptoBulkAll elems + uptoBulkAll spare + 1
  | .agg parts => uptoBulkAll parts + 1
  | .iface _ d => uptoBulk d + 1
  | .map entries => uptoBulkEntries entries + 1
  | .held _ => 1
def uptoBulkAll {H : Type} : List (DataW H) → Nat
  | [] => 0
  | d :: r => uptoBulk d + uptoBulkAll r
def uptoBulkEntries {H : Type} : List (Lit × DataW H) → Nat
  | [] => 0
  | x :: r => uptoBulkEntry x + uptoBulkEntries r
def uptoBulkEntry {H : Type} : Lit × DataW H → Nat
  | (.string bytes, d) => bytes.length + uptoBulk d + 1
  | (_, d) => uptoBulk d + 1
 end
def uptoSmall : (H : Type) → List (DataW H) → Bool := fun _ ds => decide (uptoBulkAll ds ≤ 1048576)
def OpenSpec.upto (s : _root_.Go.ChangeSpec) : _root_.Go.OpenSpec := { _root_.Go.OpenSpec.ofChange s with cond := some uptoSmall }

/-- 'ductilitylaw07.SensorWatches', WHERE WHAT IT READS IS OF BULK AT MOST 1048576: true; the input reads as it did. -/
def sensorWatchesUptoRow : OpenClaim := { program := "ytpiggpgocnlomaa", sum := "743f7d9029b1877b0fe787bd3d7e6c58a9933454406efe0523f4b3554a2c1353", func := "ductility/ductilitylaw07.SensorWatches", spec := "sensorWatches", unfollowed := true, recurses := true, apart := false, narrowed := true }
def SensorWatchesUptoSaid : Prop := sensorWatchesUptoRow.holds Try.pinned (OpenSpec.upto sensorWatchesSpec)

/-- 'ductilitylaw07.SensorImages', WHERE WHAT IT READS IS OF BULK AT MOST 1048576: true; the input reads as it did. -/
def sensorImagesUptoRow : OpenClaim := { program := "ytpiggpgocnlomaa", sum := "743f7d9029b1877b0fe787bd3d7e6c58a9933454406efe0523f4b3554a2c1353", func := "ductility/ductilitylaw07.SensorImages", spec := "sensorImages", unfollowed := true, recurses := true, apart := false, narrowed := true }
def SensorImagesUptoSaid : Prop := sensorImagesUptoRow.holds Try.pinned (OpenSpec.upto sensorImagesSpec)

/-- 'ductilitylaw07.SensorCenters', WHERE WHAT IT READS IS OF BULK AT MOST 1048576: true; the input reads as it did. -/
def sensorCentersUptoRow : OpenClaim := { program := "ytpiggpgocnlomaa", sum := "743f7d9029b1877b0fe787bd3d7e6c58a9933454406efe0523f4b3554a2c1353", func := "ductility/ductilitylaw07.SensorCenters", spec := "sensorCenters", unfollowed := true, recurses := true, apart := false, narrowed := true }
def SensorCentersUptoSaid : Prop := sensorCentersUptoRow.holds Try.pinned (OpenSpec.upto sensorCentersSpec)

/-- 'ductilitylaw07.SensorShifts', WHERE WHAT IT READS IS OF BULK AT MOST 1048576: true; the input reads as it did. -/
def sensorShiftsUptoRow : OpenClaim := { program := "ytpiggpgocnlomaa", sum := "743f7d9029b1877b0fe787bd3d7e6c58a9933454406efe0523f4b3554a2c1353", func := "ductility/ductilitylaw07.SensorShifts", spec := "sensorShifts", unfollowed := true, recurses := true, apart := false, narrowed := true }
def SensorShiftsUptoSaid : Prop := sensorShiftsUptoRow.holds Try.pinned (OpenSpec.upto sensorShiftsSpec)

/-- 'ductilitylaw07.SensorMoved', WHERE WHAT IT READS IS OF BULK AT MOST 1048576: true; the input reads as it did. -/
def sensorMovedUptoRow : OpenClaim := { program := "ytpiggpgocnlomaa", sum := "743f7d9029b1877b0fe787bd3d7e6c58a9933454406efe0523f4b3554a2c1353", func := "ductility/ductilitylaw07.SensorMoved", spec := "sensorMoved", unfollowed := true, recurses := true, apart := false, narrowed := true }
def SensorMovedUptoSaid : Prop := sensorMovedUptoRow.holds Try.pinned (OpenSpec.upto sensorMovedSpec)

/-- 'ductilitylaw07.SensorCalibrations', WHERE WHAT IT READS IS OF BULK AT MOST 1048576: true; the input reads as it did. -/
def sensorCalibrationsUptoRow : OpenClaim := { program := "ytpiggpgocnlomaa", sum := "743f7d9029b1877b0fe787bd3d7e6c58a9933454406efe0523f4b3554a2c1353", func := "ductility/ductilitylaw07.SensorCalibrations", spec := "sensorCalibrations", unfollowed := true, recurses := true, apart := false, narrowed := true }
def SensorCalibrationsUptoSaid : Prop := sensorCalibrationsUptoRow.holds Try.pinned (OpenSpec.upto sensorCalibrationsSpec)

/-- 'ductilitylaw07.SensorEquations', WHERE WHAT IT READS IS OF BULK AT MOST 1048576: true; the input reads as it did. -/
def sensorEquationsUptoRow : OpenClaim := { program := "ytpiggpgocnlomaa", sum := "743f7d9029b1877b0fe787bd3d7e6c58a9933454406efe0523f4b3554a2c1353", func := "ductility/ductilitylaw07.SensorEquations", spec := "sensorEquations", unfollowed := true, recurses := true, apart := false, narrowed := true }
def SensorEquationsUptoSaid : Prop := sensorEquationsUptoRow.holds Try.pinned (OpenSpec.upto sensorEquationsSpec)

/-- 'ductilitylaw07.SensorExplanations', WHERE WHAT IT READS IS OF BULK AT MOST 1048576: true; the input reads as it did. -/
def sensorExplanationsUptoRow : OpenClaim := { program := "ytpiggpgocnlomaa", sum := "743f7d9029b1877b0fe787bd3d7e6c58a9933454406efe0523f4b3554a2c1353", func := "ductility/ductilitylaw07.SensorExplanations", spec := "sensorExplanations", unfollowed := true, recurses := true, apart := false, narrowed := true }
def SensorExplanationsUptoSaid : Prop := sensorExplanationsUptoRow.holds Try.pinned (OpenSpec.upto sensorExplanationsSpec)

/-- 'ductilitylaw07.SensorUndone', WHERE WHAT IT READS IS OF BULK AT MOST 1048576: true; the input reads as it did. -/
def sensorUndoneUptoRow : OpenClaim := { program := "ytpiggpgocnlomaa", sum := "743f7d9029b1877b0fe787bd3d7e6c58a9933454406efe0523f4b3554a2c1353", func := "ductility/ductilitylaw07.SensorUndone", spec := "sensorUndone", unfollowed := true, recurses := true, apart := false, narrowed := true }
def SensorUndoneUptoSaid : Prop := sensorUndoneUptoRow.holds Try.pinned (OpenSpec.upto sensorUndoneSpec)

/-- 'ductilitylaw07.SensorValues', WHERE WHAT IT READS IS OF BULK AT MOST 1048576: true; the input reads as it did. -/
def sensorValuesUptoRow : OpenClaim := { program := "ytpiggpgocnlomaa", sum := "743f7d9029b1877b0fe787bd3d7e6c58a9933454406efe0523f4b3554a2c1353", func := "ductility/ductilitylaw07.SensorValues", spec := "sensorValues", unfollowed := true, recurses := true, apart := false, narrowed := true }
def SensorValuesUptoSaid : Prop := sensorValuesUptoRow.holds Try.pinned (OpenSpec.upto sensorValuesSpec)

/-- 'ductilitylaw07.SensorFaults', WHERE WHAT IT READS IS OF BULK AT MOST 1048576: true; the input reads as it did. -/
def sensorFaultsUptoRow : OpenClaim := { program := "ytpiggpgocnlomaa", sum := "743f7d9029b1877b0fe787bd3d7e6c58a9933454406efe0523f4b3554a2c1353", func := "ductility/ductilitylaw07.SensorFaults", spec := "sensorFaults", unfollowed := true, recurses := true, apart := false, narrowed := true }
def SensorFaultsUptoSaid : Prop := sensorFaultsUptoRow.holds Try.pinned (OpenSpec.upto sensorFaultsSpec)

end Rows
end Go.Proofs.Ytpiggpgocnlomaa
