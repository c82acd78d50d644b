/-
  No cell of these rows narrows 'for every input' (looked for: loops, veiled, ifaces, maps, wideKeys, modest, calm, conditions, laid).
  DERIVED. THE GIVEN ROWS OF THIS SEAT. 9 by the template 'for every input the law returns true; each argument reads behind the call as it read before'; 0 by the template 'total and deterministic' (their statements: YtbcdgfgacigaoaaGreatTotals.lean).
  GIVEN WITH THE SEED: the statements are not yours to turn. If you find one false, say at which input.
  Laid BY PROGRAM, IN A SANDBOX (cutbox-rows.mjs): the forced cells as the released guide's own fill.sh prints them over the translation 0f46f13f4860dc95… (all of the seat's roots in one cut). By AI agents, Wed Nov 11 2026. No macro, syntax, notation, axiom, sorry.
-/
import Derived.Test.YtbcdgfgacigaoaaGreatChecked
import GoSem.Claim
import GoSem.ClaimJoined
import GoSem.ClaimMapViews
import Derived.JoinedTies
import Derived.KernelRfl
namespace Go.Proofs.YtbcdgfgacigaoaaGreat
/- THE CELL 'sum', in the pinned program and in every row, IS THE sha256 OF THE DUMP (.gsa) THAT YtbcdgfgacigaoaaGreatProg.lean LOADS. Nothing in Lean hashes anything: it is a label: what it is worth is what the hold of that sum in a sandbox is worth. -/
noncomputable def Tryz.pinned : Pinned := { name := "ytbcdgfgacigaoaagreat", sum := "0f46f13f4860dc9509544d56f8c0dad3355f9272d5cb7ace4d219c3ef126b63b", checked := Tryz.checked }
namespace Rows
def none {H : Type} : Left H := { results := [], args := [] }

/-- 'ductilitylaw04.DriveCoherences': WHATEVER THE INPUT: true; the input reads as it did. -/
def driveCoherencesSpec : ChangeSpec := { name := "driveCoherences", fn := fun _ => fun
  | [d1, d2] => { results := [.lit (.bool true)], args := [d1, d2] }
  | _ => none }
def driveCoherencesRow : OpenClaim := { program := "ytbcdgfgacigaoaagreat", sum := "0f46f13f4860dc9509544d56f8c0dad3355f9272d5cb7ace4d219c3ef126b63b", func := "ductility/ductilitylaw04.DriveCoherences", spec := "driveCoherences", unfollowed := true, recurses := true, apart := false }
def DriveCoherencesSaid : Prop := driveCoherencesRow.holds Tryz.pinned (OpenSpec.ofChange driveCoherencesSpec)

/-- ITS FALSE NEIGHBOUR: 'it returns false'. Refute it at one input. -/
def driveCoherencesWrong : ChangeSpec := { name := "driveCoherences", fn := fun _ => fun
  | [d1, d2] => { results := [.lit (.bool false)], args := [d1, d2] }
  | _ => none }
def DriveCoherencesWrongFalsely : Prop := driveCoherencesRow.holds Tryz.pinned (OpenSpec.ofChange driveCoherencesWrong)

/-- 'ductilitylaw04.DriveRounds': WHATEVER THE INPUT: true; the input reads as it did. -/
def driveRoundsSpec : ChangeSpec := { name := "driveRounds", fn := fun _ => fun
  | [d1, d2, d3] => { results := [.lit (.bool true)], args := [d1, d2, d3] }
  | _ => none }
def driveRoundsRow : OpenClaim := { program := "ytbcdgfgacigaoaagreat", sum := "0f46f13f4860dc9509544d56f8c0dad3355f9272d5cb7ace4d219c3ef126b63b", func := "ductility/ductilitylaw04.DriveRounds", spec := "driveRounds", unfollowed := true, recurses := true, apart := false }
def DriveRoundsSaid : Prop := driveRoundsRow.holds Tryz.pinned (OpenSpec.ofChange driveRoundsSpec)

/-- ITS FALSE NEIGHBOUR: 'it returns false'. Refute it at one input. -/
def driveRoundsWrong : ChangeSpec := { name := "driveRounds", fn := fun _ => fun
  | [d1, d2, d3] => { results := [.lit (.bool false)], args := [d1, d2, d3] }
  | _ => none }
def DriveRoundsWrongFalsely : Prop := driveRoundsRow.holds Tryz.pinned (OpenSpec.ofChange driveRoundsWrong)

/-- 'ductilitylaw04.DriveCorrections': WHATEVER THE INPUT: true; the input reads as it did. -/
def driveCorrectionsSpec : ChangeSpec := { name := "driveCorrections", fn := fun _ => fun
  | [d1, d2, d3] => { results := [.lit (.bool true)], args := [d1, d2, d3] }
  | _ => none }
def driveCorrectionsRow : OpenClaim := { program := "ytbcdgfgacigaoaagreat", sum := "0f46f13f4860dc9509544d56f8c0dad3355f9272d5cb7ace4d219c3ef126b63b", func := "ductility/ductilitylaw04.DriveCorrections", spec := "driveCorrections", unfollowed := true, recurses := true, apart := false }
def DriveCorrectionsSaid : Prop := driveCorrectionsRow.holds Tryz.pinned (OpenSpec.ofChange driveCorrectionsSpec)

/-- ITS FALSE NEIGHBOUR: 'it returns false'. Refute it at one input. -/
def driveCorrectionsWrong : ChangeSpec := { name := "driveCorrections", fn := fun _ => fun
  | [d1, d2, d3] => { results := [.lit (.bool false)], args := [d1, d2, d3] }
  | _ => none }
def DriveCorrectionsWrongFalsely : Prop := driveCorrectionsRow.holds Tryz.pinned (OpenSpec.ofChange driveCorrectionsWrong)

/-- 'ductilitylaw04.DriveContractions': WHATEVER THE INPUT: true; the input reads as it did. -/
def driveContractionsSpec : ChangeSpec := { name := "driveContractions", fn := fun _ => fun
  | [d] => { results := [.lit (.bool true)], args := [d] }
  | _ => none }
def driveContractionsRow : OpenClaim := { program := "ytbcdgfgacigaoaagreat", sum := "0f46f13f4860dc9509544d56f8c0dad3355f9272d5cb7ace4d219c3ef126b63b", func := "ductility/ductilitylaw04.DriveContractions", spec := "driveContractions", unfollowed := true, recurses := true, apart := false }
def DriveContractionsSaid : Prop := driveContractionsRow.holds Tryz.pinned (OpenSpec.ofChange driveContractionsSpec)

/-- ITS FALSE NEIGHBOUR: 'it returns false'. Refute it at one input. -/
def driveContractionsWrong : ChangeSpec := { name := "driveContractions", fn := fun _ => fun
  | [d] => { results := [.lit (.bool false)], args := [d] }
  | _ => none }
def DriveContractionsWrongFalsely : Prop := driveContractionsRow.holds Tryz.pinned (OpenSpec.ofChange driveContractionsWrong)

/-- 'ductilitylaw04.DriveShrinks': WHATEVER THE INPUT: true; the input reads as it did. -/
def driveShrinksSpec : ChangeSpec := { name := "driveShrinks", fn := fun _ => fun
  | [d1, d2, d3] => { results := [.lit (.bool true)], args := [d1, d2, d3] }
  | _ => none }
def driveShrinksRow : OpenClaim := { program := "ytbcdgfgacigaoaagreat", sum := "0f46f13f4860dc9509544d56f8c0dad3355f9272d5cb7ace4d219c3ef126b63b", func := "ductility/ductilitylaw04.DriveShrinks", spec := "driveShrinks", unfollowed := true, recurses := true, apart := false }
def DriveShrinksSaid : Prop := driveShrinksRow.holds Tryz.pinned (OpenSpec.ofChange driveShrinksSpec)

/-- ITS FALSE NEIGHBOUR: 'it returns false'. Refute it at one input. -/
def driveShrinksWrong : ChangeSpec := { name := "driveShrinks", fn := fun _ => fun
  | [d1, d2, d3] => { results := [.lit (.bool false)], args := [d1, d2, d3] }
  | _ => none }
def DriveShrinksWrongFalsely : Prop := driveShrinksRow.holds Tryz.pinned (OpenSpec.ofChange driveShrinksWrong)

/-- 'ductilitylaw04.DriveEstimates': WHATEVER THE INPUT: true; the input reads as it did. -/
def driveEstimatesSpec : ChangeSpec := { name := "driveEstimates", fn := fun _ => fun
  | [d1, d2] => { results := [.lit (.bool true)], args := [d1, d2] }
  | _ => none }
def driveEstimatesRow : OpenClaim := { program := "ytbcdgfgacigaoaagreat", sum := "0f46f13f4860dc9509544d56f8c0dad3355f9272d5cb7ace4d219c3ef126b63b", func := "ductility/ductilitylaw04.DriveEstimates", spec := "driveEstimates", unfollowed := true, recurses := true, apart := false }
def DriveEstimatesSaid : Prop := driveEstimatesRow.holds Tryz.pinned (OpenSpec.ofChange driveEstimatesSpec)

/-- ITS FALSE NEIGHBOUR: 'it returns false'. Refute it at one input. -/
def driveEstimatesWrong : ChangeSpec := { name := "driveEstimates", fn := fun _ => fun
  | [d1, d2] => { results := [.lit (.bool false)], args := [d1, d2] }
  | _ => none }
def DriveEstimatesWrongFalsely : Prop := driveEstimatesRow.holds Tryz.pinned (OpenSpec.ofChange driveEstimatesWrong)

/-- 'ductilitylaw04.DriveExact': WHATEVER THE INPUT: true; the input reads as it did. -/
def driveExactSpec : ChangeSpec := { name := "driveExact", fn := fun _ => fun
  | [d1, d2, d3] => { results := [.lit (.bool true)], args := [d1, d2, d3] }
  | _ => none }
def driveExactRow : OpenClaim := { program := "ytbcdgfgacigaoaagreat", sum := "0f46f13f4860dc9509544d56f8c0dad3355f9272d5cb7ace4d219c3ef126b63b", func := "ductility/ductilitylaw04.DriveExact", spec := "driveExact", unfollowed := true, recurses := true, apart := false }
def DriveExactSaid : Prop := driveExactRow.holds Tryz.pinned (OpenSpec.ofChange driveExactSpec)

/-- ITS FALSE NEIGHBOUR: 'it returns false'. Refute it at one input. -/
def driveExactWrong : ChangeSpec := { name := "driveExact", fn := fun _ => fun
  | [d1, d2, d3] => { results := [.lit (.bool false)], args := [d1, d2, d3] }
  | _ => none }
def DriveExactWrongFalsely : Prop := driveExactRow.holds Tryz.pinned (OpenSpec.ofChange driveExactWrong)

/-- 'ductilitylaw04.DriveInverses': WHATEVER THE INPUT: true; the input reads as it did. -/
def driveInversesSpec : ChangeSpec := { name := "driveInverses", fn := fun _ => fun
  | [d1, d2] => { results := [.lit (.bool true)], args := [d1, d2] }
  | _ => none }
def driveInversesRow : OpenClaim := { program := "ytbcdgfgacigaoaagreat", sum := "0f46f13f4860dc9509544d56f8c0dad3355f9272d5cb7ace4d219c3ef126b63b", func := "ductility/ductilitylaw04.DriveInverses", spec := "driveInverses", unfollowed := true, recurses := true, apart := false }
def DriveInversesSaid : Prop := driveInversesRow.holds Tryz.pinned (OpenSpec.ofChange driveInversesSpec)

/-- ITS FALSE NEIGHBOUR: 'it returns false'. Refute it at one input. -/
def driveInversesWrong : ChangeSpec := { name := "driveInverses", fn := fun _ => fun
  | [d1, d2] => { results := [.lit (.bool false)], args := [d1, d2] }
  | _ => none }
def DriveInversesWrongFalsely : Prop := driveInversesRow.holds Tryz.pinned (OpenSpec.ofChange driveInversesWrong)

/-- 'ductilitylaw04.DriveSure': WHATEVER THE INPUT: true; the input reads as it did. -/
def driveSureSpec : ChangeSpec := { name := "driveSure", fn := fun _ => fun
  | [d1, d2, d3] => { results := [.lit (.bool true)], args := [d1, d2, d3] }
  | _ => none }
def driveSureRow : OpenClaim := { program := "ytbcdgfgacigaoaagreat", sum := "0f46f13f4860dc9509544d56f8c0dad3355f9272d5cb7ace4d219c3ef126b63b", func := "ductility/ductilitylaw04.DriveSure", spec := "driveSure", unfollowed := true, recurses := true, apart := false }
def DriveSureSaid : Prop := driveSureRow.holds Tryz.pinned (OpenSpec.ofChange driveSureSpec)

/-- ITS FALSE NEIGHBOUR: 'it returns false'. Refute it at one input. -/
def driveSureWrong : ChangeSpec := { name := "driveSure", fn := fun _ => fun
  | [d1, d2, d3] => { results := [.lit (.bool false)], args := [d1, d2, d3] }
  | _ => none }
def DriveSureWrongFalsely : Prop := driveSureRow.holds Tryz.pinned (OpenSpec.ofChange driveSureWrong)

/- THE SECOND FORM. 'bulk': how many values and letters a reading holds, each counted each time it is reached (what is shared counts as often as it is met; a slice's spare places count too). A statement '..UptoSaid' is the law's where the arguments, and the package variables that the reading takes, are together of bulk at most 1048576: NARROWER than '..Said'. Prove '..Said' where nothing that the law and all that it calls make is longer than what came in: it says more and counts as full. Else prove '..UptoSaid'. A law counts once. -/
mutual
def uptoBulk {H : Type} : DataW H → Nat
  | .lit (.string bytes) => bytes.length + 1
  | .lit _ => 1
  | .nil => 1
  | .ptr d => uptoBulk d + 1
  | .slice elems spare => uptoBulkAll elems + uptoBulkAll spare + 1
  | .agg parts => uptoBulkAll parts + 1
  | .iface _ d => uptoBulk d + 1
  | .map entries => uptoBulkEntries entries + 1
  | .held _ => 1
def uptoBulkAll {H : Type} : List (DataW H) → Nat
  | [] => 0
  | d :: r => uptoBulk d + uptoBulkAll r
def uptoBulkEntries {H : Type} : List (Lit × DataW H) → Nat
  | [] => 0
  | x :: r => uptoBulkEntry x + uptoBulkEntries r
def uptoBulkEntry {H : Type} : Lit × DataW H → Nat
  | (.string bytes, d) => bytes.length + uptoBulk d + 1
  | (_, d) => uptoBulk d + 1
 end
def uptoSmall : (H : Type) → List (DataW H) → Bool := fun _ ds => decide (uptoBulkAll ds ≤ 1048576)
def OpenSpec.upto (s : _root_.Go.ChangeSpec) : _root_.Go.OpenSpec := { _root_.Go.OpenSpec.ofChange s with cond := some uptoSmall }

/-- 'ductilitylaw04.DriveCoherences', WHERE WHAT IT READS IS OF BULK AT MOST 1048576: true; the input reads as it did. -/
def driveCoherencesUptoRow : OpenClaim := { program := "ytbcdgfgacigaoaagreat", sum := "0f46f13f4860dc9509544d56f8c0dad3355f9272d5cb7ace4d219c3ef126b63b", func := "ductility/ductilitylaw04.DriveCoherences", spec := "driveCoherences", unfollowed := true, recurses := true, apart := false, narrowed := true }
def DriveCoherencesUptoSaid : Prop := driveCoherencesUptoRow.holds Tryz.pinned (OpenSpec.upto driveCoherencesSpec)

/-- 'ductilitylaw04.DriveRounds', WHERE WHAT IT READS IS OF BULK AT MOST 1048576: true; the input reads as it did. -/
def driveRoundsUptoRow : OpenClaim := { program := "ytbcdgfgacigaoaagreat", sum := "0f46f13f4860dc9509544d56f8c0dad3355f9272d5cb7ace4d219c3ef126b63b", func := "ductility/ductilitylaw04.DriveRounds", spec := "driveRounds", unfollowed := true, recurses := true, apart := false, narrowed := true }
def DriveRoundsUptoSaid : Prop := driveRoundsUptoRow.holds Tryz.pinned (OpenSpec.upto driveRoundsSpec)

/-- 'ductilitylaw04.DriveCorrections', WHERE WHAT IT READS IS OF BULK AT MOST 1048576: true; the input reads as it did. -/
def driveCorrectionsUptoRow : OpenClaim := { program := "ytbcdgfgacigaoaagreat", sum := "0f46f13f4860dc9509544d56f8c0dad3355f9272d5cb7ace4d219c3ef126b63b", func := "ductility/ductilitylaw04.DriveCorrections", spec := "driveCorrections", unfollowed := true, recurses := true, apart := false, narrowed := true }
def DriveCorrectionsUptoSaid : Prop := driveCorrectionsUptoRow.holds Tryz.pinned (OpenSpec.upto driveCorrectionsSpec)

/-- 'ductilitylaw04.DriveContractions', WHERE WHAT IT READS IS OF BULK AT MOST 1048576: true; the input reads as it did. -/
def driveContractionsUptoRow : OpenClaim := { program := "ytbcdgfgacigaoaagreat", sum := "0f46f13f4860dc9509544d56f8c0dad3355f9272d5cb7ace4d219c3ef126b63b", func := "ductility/ductilitylaw04.DriveContractions", spec := "driveContractions", unfollowed := true, recurses := true, apart := false, narrowed := true }
def DriveContractionsUptoSaid : Prop := driveContractionsUptoRow.holds Tryz.pinned (OpenSpec.upto driveContractionsSpec)

/-- 'ductilitylaw04.DriveShrinks', WHERE WHAT IT READS IS OF BULK AT MOST 1048576: true; the input reads as it did. -/
def driveShrinksUptoRow : OpenClaim := { program := "ytbcdgfgacigaoaagreat", sum := "0f46f13f4860dc9509544d56f8c0dad3355f9272d5cb7ace4d219c3ef126b63b", func := "ductility/ductilitylaw04.DriveShrinks", spec := "driveShrinks", unfollowed := true, recurses := true, apart := false, narrowed := true }
def DriveShrinksUptoSaid : Prop := driveShrinksUptoRow.holds Tryz.pinned (OpenSpec.upto driveShrinksSpec)

/-- 'ductilitylaw04.DriveEstimates', WHERE WHAT IT READS IS OF BULK AT MOST 1048576: true; the input reads as it did. -/
def driveEstimatesUptoRow : OpenClaim := { program := "ytbcdgfgacigaoaagreat", sum := "0f46f13f4860dc9509544d56f8c0dad3355f9272d5cb7ace4d219c3ef126b63b", func := "ductility/ductilitylaw04.DriveEstimates", spec := "driveEstimates", unfollowed := true, recurses := true, apart := false, narrowed := true }
def DriveEstimatesUptoSaid : Prop := driveEstimatesUptoRow.holds Tryz.pinned (OpenSpec.upto driveEstimatesSpec)

/-- 'ductilitylaw04.DriveExact', WHERE WHAT IT READS IS OF BULK AT MOST 1048576: true; the input reads as it did. -/
def driveExactUptoRow : OpenClaim := { program := "ytbcdgfgacigaoaagreat", sum := "0f46f13f4860dc9509544d56f8c0dad3355f9272d5cb7ace4d219c3ef126b63b", func := "ductility/ductilitylaw04.DriveExact", spec := "driveExact", unfollowed := true, recurses := true, apart := false, narrowed := true }
def DriveExactUptoSaid : Prop := driveExactUptoRow.holds Tryz.pinned (OpenSpec.upto driveExactSpec)

/-- 'ductilitylaw04.DriveInverses', WHERE WHAT IT READS IS OF BULK AT MOST 1048576: true; the input reads as it did. -/
def driveInversesUptoRow : OpenClaim := { program := "ytbcdgfgacigaoaagreat", sum := "0f46f13f4860dc9509544d56f8c0dad3355f9272d5cb7ace4d219c3ef126b63b", func := "ductility/ductilitylaw04.DriveInverses", spec := "driveInverses", unfollowed := true, recurses := true, apart := false, narrowed := true }
def DriveInversesUptoSaid : Prop := driveInversesUptoRow.holds Tryz.pinned (OpenSpec.upto driveInversesSpec)

/-- 'ductilitylaw04.DriveSure', WHERE WHAT IT READS IS OF BULK AT MOST 1048576: true; the input reads as it did. -/
def driveSureUptoRow : OpenClaim := { program := "ytbcdgfgacigaoaagreat", sum := "0f46f13f4860dc9509544d56f8c0dad3355f9272d5cb7ace4d219c3ef126b63b", func := "ductility/ductilitylaw04.DriveSure", spec := "driveSure", unfollowed := true, recurses := true, apart := false, narrowed := true }
def DriveSureUptoSaid : Prop := driveSureUptoRow.holds Tryz.pinned (OpenSpec.upto driveSureSpec)

end Rows
end Go.Proofs.YtbcdgfgacigaoaaGreat
