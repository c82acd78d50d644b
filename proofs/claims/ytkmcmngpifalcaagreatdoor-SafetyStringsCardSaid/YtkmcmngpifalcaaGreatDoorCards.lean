/-
  DERIVED. GIVEN WITH THE SEED: THE CARDS: each row of YtkmcmngpifalcaaGreatDoorRows.lean that lists a variable, with what it lists TIED to the program's text (the seventh form; the later family's looks); each row that meets fmt, with fmt's text TOLD by the authors' own Lean function (tested against real Go, not proved from fmt's source: count such statements apart). THE CARD IS WHAT COUNTS. Prove the row's statement (the work); the ties are given (YtkmcmngpifalcaaGreatDoorTie.lean); close each card by the builder's one call (the guide's Derived/Test/ToyasCard.lean, 'card_holds'). Laid BY PROGRAM, IN A SANDBOX (cutbox-door.mjs). By AI agents, Wed Nov 11 2026. No macro, syntax, notation, axiom, sorry.
-/
import Derived.Test.YtkmcmngpifalcaaGreatDoorRows
import GoSem.ClaimSeven
namespace Go.Proofs.YtkmcmngpifalcaaGreatDoor
namespace Rows

/-- THE TIED CARD OF 'ductilitylaw09.SafetyStrings'. -/
def safetyStringsCard : Claim7 := { stood := { row := safetyStringsRow, standIns := [], harness := (true, "f56388c7ccbb234a3f32f651a870a45356981ba53bcb0ba7cc152d86f1c63cb3"), looks := true }, kinds := [], alts := [], laidByText := true, laidKinds := [.data, .data, .data, .data, .sentinel, .sentinel, .pinned], laidTests := true, laidLooks := .later }
def SafetyStringsCardSaid : Prop := Claim7.holds Tryz.pinned (.plain (OpenSpec.ofChange safetyStringsSpec)) safetyStringsCard

/-- THE SECOND FORM's CARD OF 'ductilitylaw09.SafetyStrings'. -/
def safetyStringsUptoCard : Claim7 := { stood := { row := safetyStringsUptoRow, standIns := [], harness := (true, "f56388c7ccbb234a3f32f651a870a45356981ba53bcb0ba7cc152d86f1c63cb3"), looks := true }, kinds := [], alts := [], laidByText := true, laidKinds := [.data, .data, .data, .data, .sentinel, .sentinel, .pinned], laidTests := true, laidLooks := .later }
def SafetyStringsUptoCardSaid : Prop := Claim7.holds Tryz.pinned (.plain (OpenSpec.upto safetyStringsSpec)) safetyStringsUptoCard
end Rows
end Go.Proofs.YtkmcmngpifalcaaGreatDoor
