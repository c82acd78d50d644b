/-
  DERIVED. GIVEN WITH THE SEED: THE CARDS: each row of YtkcaaaiihhhnmaaGreatDoorRows.lean that lists a variable, with what it lists TIED to the program's text (the seventh form; the later family's looks); each row that meets fmt, with fmt's text TOLD by the authors' own Lean function (tested against real Go, not proved from fmt's source: count such statements apart). THE CARD IS WHAT COUNTS. Prove the row's statement (the work); the ties are given (YtkcaaaiihhhnmaaGreatDoorTie.lean); close each card by the builder's one call (the guide's Derived/Test/ToyasCard.lean, 'card_holds'). Laid BY PROGRAM, IN A SANDBOX (cutbox-door.mjs). By AI agents, Wed Nov 11 2026. No macro, syntax, notation, axiom, sorry.
-/
import Derived.Test.YtkcaaaiihhhnmaaGreatDoorRows
import GoSem.ClaimSeven
namespace Go.Proofs.YtkcaaaiihhhnmaaGreatDoor
namespace Rows

/-- THE TIED CARD OF 'ductilitylaw09.SafetyHarms'. -/
def safetyHarmsCard : Claim7 := { stood := { row := safetyHarmsRow, standIns := [], harness := (true, "e1fab70e5dba04e5b9d943c364cb30e45070e78fb89e0c99eb25930192b6c822"), looks := true }, kinds := [], alts := [], laidByText := true, laidKinds := [.data, .data], laidTests := true, laidLooks := .later }
def SafetyHarmsCardSaid : Prop := Claim7.holds Tryz.pinned (.plain (OpenSpec.ofChange safetyHarmsSpec)) safetyHarmsCard

/-- THE TIED CARD OF 'ductilitylaw09.SafetyProved'. -/
def safetyProvedCard : Claim7 := { stood := { row := safetyProvedRow, standIns := [], harness := (true, "e1fab70e5dba04e5b9d943c364cb30e45070e78fb89e0c99eb25930192b6c822"), looks := true }, kinds := [], alts := [], laidByText := true, laidKinds := [.data, .data], laidTests := true, laidLooks := .later }
def SafetyProvedCardSaid : Prop := Claim7.holds Tryz.pinned (.plain (OpenSpec.ofChange safetyProvedSpec)) safetyProvedCard

/-- THE TIED CARD OF 'ductilitylaw09.SafetyStrings'. -/
def safetyStringsCard : Claim7 := { stood := { row := safetyStringsRow, standIns := [], harness := (true, "e1fab70e5dba04e5b9d943c364cb30e45070e78fb89e0c99eb25930192b6c822"), looks := true }, kinds := [], alts := [], laidByText := true, laidKinds := [.data, .data, .data, .data, .sentinel, .sentinel, .pinned], laidTests := true, laidLooks := .later }
def SafetyStringsCardSaid : Prop := Claim7.holds Tryz.pinned (.plain (OpenSpec.ofChange safetyStringsSpec)) safetyStringsCard

/-- THE TIED CARD OF 'ductilitytop.TopSafetyGate'. -/
def topSafetyGateCard : Claim7 := { stood := { row := topSafetyGateRow, standIns := [], harness := (true, "e1fab70e5dba04e5b9d943c364cb30e45070e78fb89e0c99eb25930192b6c822"), looks := true }, kinds := [], alts := [], laidByText := true, laidKinds := [.data, .data, .data, .data, .sentinel, .sentinel, .pinned], laidTests := true, laidLooks := .later }
def TopSafetyGateCardSaid : Prop := Claim7.holds Tryz.pinned (.plain (OpenSpec.ofChange topSafetyGateSpec)) topSafetyGateCard

/-- THE SECOND FORM's CARD OF 'ductilitylaw09.SafetyHarms'. -/
def safetyHarmsUptoCard : Claim7 := { stood := { row := safetyHarmsUptoRow, standIns := [], harness := (true, "e1fab70e5dba04e5b9d943c364cb30e45070e78fb89e0c99eb25930192b6c822"), looks := true }, kinds := [], alts := [], laidByText := true, laidKinds := [.data, .data], laidTests := true, laidLooks := .later }
def SafetyHarmsUptoCardSaid : Prop := Claim7.holds Tryz.pinned (.plain (OpenSpec.upto safetyHarmsSpec)) safetyHarmsUptoCard

/-- THE SECOND FORM's CARD OF 'ductilitylaw09.SafetyProved'. -/
def safetyProvedUptoCard : Claim7 := { stood := { row := safetyProvedUptoRow, standIns := [], harness := (true, "e1fab70e5dba04e5b9d943c364cb30e45070e78fb89e0c99eb25930192b6c822"), looks := true }, kinds := [], alts := [], laidByText := true, laidKinds := [.data, .data], laidTests := true, laidLooks := .later }
def SafetyProvedUptoCardSaid : Prop := Claim7.holds Tryz.pinned (.plain (OpenSpec.upto safetyProvedSpec)) safetyProvedUptoCard

/-- THE SECOND FORM's CARD OF 'ductilitylaw09.SafetyStrings'. -/
def safetyStringsUptoCard : Claim7 := { stood := { row := safetyStringsUptoRow, standIns := [], harness := (true, "e1fab70e5dba04e5b9d943c364cb30e45070e78fb89e0c99eb25930192b6c822"), looks := true }, kinds := [], alts := [], laidByText := true, laidKinds := [.data, .data, .data, .data, .sentinel, .sentinel, .pinned], laidTests := true, laidLooks := .later }
def SafetyStringsUptoCardSaid : Prop := Claim7.holds Tryz.pinned (.plain (OpenSpec.upto safetyStringsSpec)) safetyStringsUptoCard

/-- THE SECOND FORM's CARD OF 'ductilitytop.TopSafetyGate'. -/
def topSafetyGateUptoCard : Claim7 := { stood := { row := topSafetyGateUptoRow, standIns := [], harness := (true, "e1fab70e5dba04e5b9d943c364cb30e45070e78fb89e0c99eb25930192b6c822"), looks := true }, kinds := [], alts := [], laidByText := true, laidKinds := [.data, .data, .data, .data, .sentinel, .sentinel, .pinned], laidTests := true, laidLooks := .later }
def TopSafetyGateUptoCardSaid : Prop := Claim7.holds Tryz.pinned (.plain (OpenSpec.upto topSafetyGateSpec)) topSafetyGateUptoCard
end Rows
end Go.Proofs.YtkcaaaiihhhnmaaGreatDoor
