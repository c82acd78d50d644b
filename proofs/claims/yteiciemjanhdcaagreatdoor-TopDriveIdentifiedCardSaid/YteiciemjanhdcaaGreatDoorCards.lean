/-
  DERIVED. GIVEN WITH THE SEED: THE CARDS: each row of YteiciemjanhdcaaGreatDoorRows.lean that lists a variable, with what it lists TIED to the program's text (the seventh form; the later family's looks); each row that meets fmt, with fmt's text TOLD by the authors' own Lean function (tested against real Go, not proved from fmt's source: count such statements apart). THE CARD IS WHAT COUNTS. Prove the row's statement (the work); the ties are given (YteiciemjanhdcaaGreatDoorTie.lean); close each card by the builder's one call (the guide's Derived/Test/ToyasCard.lean, 'card_holds'). Laid BY PROGRAM, IN A SANDBOX (cutbox-door.mjs). By AI agents, Wed Nov 11 2026. No macro, syntax, notation, axiom, sorry.
-/
import Derived.Test.YteiciemjanhdcaaGreatDoorRows
import GoSem.ClaimSeven
namespace Go.Proofs.YteiciemjanhdcaaGreatDoor
namespace Rows

/-- THE TIED CARD OF 'ductilitytop.TopDriveBounded'. -/
def topDriveBoundedCard : Claim7 := { stood := { row := topDriveBoundedRow, standIns := [], harness := (true, "b047576e82b3618035bcd12881f37f9051199a02151335b10545a8d28bc60f06"), looks := true }, kinds := [], alts := [], laidByText := true, laidKinds := [.data, .data, .data, .data, .sentinel, .sentinel, .pinned], laidTests := true, laidLooks := .later }
def TopDriveBoundedCardSaid : Prop := Claim7.holds Tryz.pinned (.plain (OpenSpec.ofChange topDriveBoundedSpec)) topDriveBoundedCard

/-- THE TIED CARD OF 'ductilitytop.TopSensorPhysics'. -/
def topSensorPhysicsCard : Claim7 := { stood := { row := topSensorPhysicsRow, standIns := [], harness := (true, "b047576e82b3618035bcd12881f37f9051199a02151335b10545a8d28bc60f06"), looks := true }, kinds := [], alts := [], laidByText := true, laidKinds := [.data, .data, .data, .data, .sentinel, .sentinel, .pinned], laidTests := true, laidLooks := .later }
def TopSensorPhysicsCardSaid : Prop := Claim7.holds Tryz.pinned (.plain (OpenSpec.ofChange topSensorPhysicsSpec)) topSensorPhysicsCard

/-- THE TIED CARD OF 'ductilitylaw07.SensorStrings'. -/
def sensorStringsCard : Claim7 := { stood := { row := sensorStringsRow, standIns := [], harness := (true, "b047576e82b3618035bcd12881f37f9051199a02151335b10545a8d28bc60f06"), looks := true }, kinds := [], alts := [], laidByText := true, laidKinds := [.data, .data, .data, .data, .sentinel, .sentinel, .pinned], laidTests := true, laidLooks := .later }
def SensorStringsCardSaid : Prop := Claim7.holds Tryz.pinned (.plain (OpenSpec.ofChange sensorStringsSpec)) sensorStringsCard

/-- THE TIED CARD OF 'ductilitylaw04.DriveStrings'. -/
def driveStringsCard : Claim7 := { stood := { row := driveStringsRow, standIns := [], harness := (true, "b047576e82b3618035bcd12881f37f9051199a02151335b10545a8d28bc60f06"), looks := true }, kinds := [], alts := [], laidByText := true, laidKinds := [.data, .data, .data, .data, .sentinel, .sentinel, .pinned], laidTests := true, laidLooks := .later }
def DriveStringsCardSaid : Prop := Claim7.holds Tryz.pinned (.plain (OpenSpec.ofChange driveStringsSpec)) driveStringsCard

/-- THE TIED CARD OF 'ductilitytop.TopDriveIdentified'. -/
def topDriveIdentifiedCard : Claim7 := { stood := { row := topDriveIdentifiedRow, standIns := [], harness := (true, "b047576e82b3618035bcd12881f37f9051199a02151335b10545a8d28bc60f06"), looks := true }, kinds := [], alts := [], laidByText := true, laidKinds := [.data, .data, .data, .data, .sentinel, .sentinel, .pinned], laidTests := true, laidLooks := .later }
def TopDriveIdentifiedCardSaid : Prop := Claim7.holds Tryz.pinned (.plain (OpenSpec.ofChange topDriveIdentifiedSpec)) topDriveIdentifiedCard

/-- THE SECOND FORM's CARD OF 'ductilitytop.TopDriveBounded'. -/
def topDriveBoundedUptoCard : Claim7 := { stood := { row := topDriveBoundedUptoRow, standIns := [], harness := (true, "b047576e82b3618035bcd12881f37f9051199a02151335b10545a8d28bc60f06"), looks := true }, kinds := [], alts := [], laidByText := true, laidKinds := [.data, .data, .data, .data, .sentinel, .sentinel, .pinned], laidTests := true, laidLooks := .later }
def TopDriveBoundedUptoCardSaid : Prop := Claim7.holds Tryz.pinned (.plain (OpenSpec.upto topDriveBoundedSpec)) topDriveBoundedUptoCard

/-- THE SECOND FORM's CARD OF 'ductilitytop.TopSensorPhysics'. -/
def topSensorPhysicsUptoCard : Claim7 := { stood := { row := topSensorPhysicsUptoRow, standIns := [], harness := (true, "b047576e82b3618035bcd12881f37f9051199a02151335b10545a8d28bc60f06"), looks := true }, kinds := [], alts := [], laidByText := true, laidKinds := [.data, .data, .data, .data, .sentinel, .sentinel, .pinned], laidTests := true, laidLooks := .later }
def TopSensorPhysicsUptoCardSaid : Prop := Claim7.holds Tryz.pinned (.plain (OpenSpec.upto topSensorPhysicsSpec)) topSensorPhysicsUptoCard

/-- THE SECOND FORM's CARD OF 'ductilitylaw07.SensorStrings'. -/
def sensorStringsUptoCard : Claim7 := { stood := { row := sensorStringsUptoRow, standIns := [], harness := (true, "b047576e82b3618035bcd12881f37f9051199a02151335b10545a8d28bc60f06"), looks := true }, kinds := [], alts := [], laidByText := true, laidKinds := [.data, .data, .data, .data, .sentinel, .sentinel, .pinned], laidTests := true, laidLooks := .later }
def SensorStringsUptoCardSaid : Prop := Claim7.holds Tryz.pinned (.plain (OpenSpec.upto sensorStringsSpec)) sensorStringsUptoCard

/-- THE SECOND FORM's CARD OF 'ductilitylaw04.DriveStrings'. -/
def driveStringsUptoCard : Claim7 := { stood := { row := driveStringsUptoRow, standIns := [], harness := (true, "b047576e82b3618035bcd12881f37f9051199a02151335b10545a8d28bc60f06"), looks := true }, kinds := [], alts := [], laidByText := true, laidKinds := [.data, .data, .data, .data, .sentinel, .sentinel, .pinned], laidTests := true, laidLooks := .later }
def DriveStringsUptoCardSaid : Prop := Claim7.holds Tryz.pinned (.plain (OpenSpec.upto driveStringsSpec)) driveStringsUptoCard

/-- THE SECOND FORM's CARD OF 'ductilitytop.TopDriveIdentified'. -/
def topDriveIdentifiedUptoCard : Claim7 := { stood := { row := topDriveIdentifiedUptoRow, standIns := [], harness := (true, "b047576e82b3618035bcd12881f37f9051199a02151335b10545a8d28bc60f06"), looks := true }, kinds := [], alts := [], laidByText := true, laidKinds := [.data, .data, .data, .data, .sentinel, .sentinel, .pinned], laidTests := true, laidLooks := .later }
def TopDriveIdentifiedUptoCardSaid : Prop := Claim7.holds Tryz.pinned (.plain (OpenSpec.upto topDriveIdentifiedSpec)) topDriveIdentifiedUptoCard
end Rows
end Go.Proofs.YteiciemjanhdcaaGreatDoor
