/-
  No cell of these rows narrows 'for every input' (looked for: loops, veiled, ifaces, maps, wideKeys, modest, calm, conditions, laid).
  DERIVED. THE GIVEN ROWS OF THIS SEAT. 4 by the template 'for every input the law returns true; each argument reads behind the call as it read before'; 0 by the template 'total and deterministic' (their statements: YtbcdgfgacigaoaaTotals.lean).
  GIVEN WITH THE SEED: the statements are not yours to turn. If you find one false, say at which input.
  Laid BY PROGRAM, IN A SANDBOX (cutbox-rows.mjs): the forced cells as the released guide's own fill.sh prints them over the translation 21a60d3d7926f7b9… (all of the seat's roots in one cut). By AI agents, Wed Nov 11 2026. No macro, syntax, notation, axiom, sorry.
-/
import Derived.Test.YtbcdgfgacigaoaaChecked
import GoSem.Claim
import GoSem.ClaimJoined
import GoSem.ClaimMapViews
import Derived.JoinedTies
import Derived.KernelRfl
namespace Go.Proofs.Ytbcdgfgacigaoaa
/- THE CELL 'sum', in the pinned program and in every row, IS THE sha256 OF THE DUMP (.gsa) THAT YtbcdgfgacigaoaaProg.lean LOADS. Nothing in Lean hashes anything: it is a label: what it is worth is what the hold of that sum in a sandbox is worth. -/
noncomputable def Try.pinned : Pinned := { name := "ytbcdgfgacigaoaa", sum := "21a60d3d7926f7b984df8db2464497e5a7a6d124c758fbcc42416ec3ede09522", checked := Try.checked }
namespace Rows
def none {H : Type} : Left H := { results := [], args := [] }

/-- 'ductilitylaw04.DriveTables': WHATEVER THE INPUT: true; the input reads as it did. -/
def driveTablesSpec : ChangeSpec := { name := "driveTables", fn := fun _ => fun
  | [d] => { results := [.lit (.bool true)], args := [d] }
  | _ => none }
def driveTablesRow : OpenClaim := { program := "ytbcdgfgacigaoaa", sum := "21a60d3d7926f7b984df8db2464497e5a7a6d124c758fbcc42416ec3ede09522", func := "ductility/ductilitylaw04.DriveTables", spec := "driveTables", unfollowed := true, recurses := true, apart := false }
def DriveTablesSaid : Prop := driveTablesRow.holds Try.pinned (OpenSpec.ofChange driveTablesSpec)

/-- ITS FALSE NEIGHBOUR: 'it returns false'. Refute it at one input. -/
def driveTablesWrong : ChangeSpec := { name := "driveTables", fn := fun _ => fun
  | [d] => { results := [.lit (.bool false)], args := [d] }
  | _ => none }
def DriveTablesWrongFalsely : Prop := driveTablesRow.holds Try.pinned (OpenSpec.ofChange driveTablesWrong)

/-- 'ductilitylaw04.DriveStable': WHATEVER THE INPUT: true; the input reads as it did. -/
def driveStableSpec : ChangeSpec := { name := "driveStable", fn := fun _ => fun
  | [d1, d2] => { results := [.lit (.bool true)], args := [d1, d2] }
  | _ => none }
def driveStableRow : OpenClaim := { program := "ytbcdgfgacigaoaa", sum := "21a60d3d7926f7b984df8db2464497e5a7a6d124c758fbcc42416ec3ede09522", func := "ductility/ductilitylaw04.DriveStable", spec := "driveStable", unfollowed := true, recurses := true, apart := false }
def DriveStableSaid : Prop := driveStableRow.holds Try.pinned (OpenSpec.ofChange driveStableSpec)

/-- ITS FALSE NEIGHBOUR: 'it returns false'. Refute it at one input. -/
def driveStableWrong : ChangeSpec := { name := "driveStable", fn := fun _ => fun
  | [d1, d2] => { results := [.lit (.bool false)], args := [d1, d2] }
  | _ => none }
def DriveStableWrongFalsely : Prop := driveStableRow.holds Try.pinned (OpenSpec.ofChange driveStableWrong)

/-- 'ductilitylaw04.DriveMatrices': WHATEVER THE INPUT: true; the input reads as it did. -/
def driveMatricesSpec : ChangeSpec := { name := "driveMatrices", fn := fun _ => fun
  | [d1, d2] => { results := [.lit (.bool true)], args := [d1, d2] }
  | _ => none }
def driveMatricesRow : OpenClaim := { program := "ytbcdgfgacigaoaa", sum := "21a60d3d7926f7b984df8db2464497e5a7a6d124c758fbcc42416ec3ede09522", func := "ductility/ductilitylaw04.DriveMatrices", spec := "driveMatrices", unfollowed := true, recurses := true, apart := false }
def DriveMatricesSaid : Prop := driveMatricesRow.holds Try.pinned (OpenSpec.ofChange driveMatricesSpec)

/-- ITS FALSE NEIGHBOUR: 'it returns false'. Refute it at one input. -/
def driveMatricesWrong : ChangeSpec := { name := "driveMatrices", fn := fun _ => fun
  | [d1, d2] => { results := [.lit (.bool false)], args := [d1, d2] }
  | _ => none }
def DriveMatricesWrongFalsely : Prop := driveMatricesRow.holds Try.pinned (OpenSpec.ofChange driveMatricesWrong)

/-- 'ductilitylaw04.DriveLoops': WHATEVER THE INPUT: true; the input reads as it did. -/
def driveLoopsSpec : ChangeSpec := { name := "driveLoops", fn := fun _ => fun
  | [d] => { results := [.lit (.bool true)], args := [d] }
  | _ => none }
def driveLoopsRow : OpenClaim := { program := "ytbcdgfgacigaoaa", sum := "21a60d3d7926f7b984df8db2464497e5a7a6d124c758fbcc42416ec3ede09522", func := "ductility/ductilitylaw04.DriveLoops", spec := "driveLoops", unfollowed := true, recurses := true, apart := false }
def DriveLoopsSaid : Prop := driveLoopsRow.holds Try.pinned (OpenSpec.ofChange driveLoopsSpec)

/-- ITS FALSE NEIGHBOUR: 'it returns false'. Refute it at one input. -/
def driveLoopsWrong : ChangeSpec := { name := "driveLoops", fn := fun _ => fun
  | [d] => { results := [.lit (.bool false)], args := [d] }
  | _ => none }
def DriveLoopsWrongFalsely : Prop := driveLoopsRow.holds Try.pinned (OpenSpec.ofChange driveLoopsWrong)

/- THE SECOND FORM. 'bulk': how many values and letters a reading holds, each counted each time it is reached (what is shared counts as often as it is met; a slice's spare places count too). A statement '..UptoSaid' is the law's where the arguments, and the package variables that the reading takes, are together of bulk at most 1048576: NARROWER than '..Said'. Prove '..Said' where nothing that the law and all that it calls make is longer than what came in: it says more and counts as full. Else prove '..UptoSaid'. A law counts once. -/
mutual
def uptoBulk {H : Type} : DataW H → Nat
  | .lit (.string bytes) => bytes.length + 1
  | .lit _ => 1
  | .nil => 1
  | .ptr d => uptoBulk d + 1
  | .slice elems spare => uptoBulkAll elems + uptoBulkAll spare + 1
  | .agg parts => uptoBulkAll parts + 1
  | .iface _ d => uptoBulk d + 1
  | .map entries => uptoBulkEntries entries + 1
  | .held _ => 1
def uptoBulkAll {H : Type} : List (DataW H) → Nat
  | [] => 0
  | d :: r => uptoBulk d + uptoBulkAll r
def uptoBulkEntries {H : Type} : List (Lit × DataW H) → Nat
  | [] => 0
  | x :: r => uptoBulkEntry x + uptoBulkEntries r
def uptoBulkEntry {H : Type} : Lit × DataW H → Nat
  | (.string bytes, d) => bytes.length + uptoBulk d + 1
  | (_, d) => uptoBulk d + 1
 end
def uptoSmall : (H : Type) → List (DataW H) → Bool := fun _ ds => decide (uptoBulkAll ds ≤ 1048576)
def OpenSpec.upto (s : _root_.Go.ChangeSpec) : _root_.Go.OpenSpec := { _root_.Go.OpenSpec.ofChange s with cond := some uptoSmall }

/-- 'ductilitylaw04.DriveTables', WHERE WHAT IT READS IS OF BULK AT MOST 1048576: true; the input reads as it did. -/
def driveTablesUptoRow : OpenClaim := { program := "ytbcdgfgacigaoaa", sum := "21a60d3d7926f7b984df8db2464497e5a7a6d124c758fbcc42416ec3ede09522", func := "ductility/ductilitylaw04.DriveTables", spec := "driveTables", unfollowed := true, recurses := true, apart := false, narrowed := true }
def DriveTablesUptoSaid : Prop := driveTablesUptoRow.holds Try.pinned (OpenSpec.upto driveTablesSpec)

/-- 'ductilitylaw04.DriveStable', WHERE WHAT IT READS IS OF BULK AT MOST 1048576: true; the input reads as it did. -/
def driveStableUptoRow : OpenClaim := { program := "ytbcdgfgacigaoaa", sum := "21a60d3d7926f7b984df8db2464497e5a7a6d124c758fbcc42416ec3ede09522", func := "ductility/ductilitylaw04.DriveStable", spec := "driveStable", unfollowed := true, recurses := true, apart := false, narrowed := true }
def DriveStableUptoSaid : Prop := driveStableUptoRow.holds Try.pinned (OpenSpec.upto driveStableSpec)

/-- 'ductilitylaw04.DriveMatrices', WHERE WHAT IT READS IS OF BULK AT MOST 1048576: true; the input reads as it did. -/
def driveMatricesUptoRow : OpenClaim := { program := "ytbcdgfgacigaoaa", sum := "21a60d3d7926f7b984df8db2464497e5a7a6d124c758fbcc42416ec3ede09522", func := "ductility/ductilitylaw04.DriveMatrices", spec := "driveMatrices", unfollowed := true, recurses := true, apart := false, narrowed := true }
def DriveMatricesUptoSaid : Prop := driveMatricesUptoRow.holds Try.pinned (OpenSpec.upto driveMatricesSpec)

/-- 'ductilitylaw04.DriveLoops', WHERE WHAT IT READS IS OF BULK AT MOST 1048576: true; the input reads as it did. -/
def driveLoopsUptoRow : OpenClaim := { program := "ytbcdgfgacigaoaa", sum := "21a60d3d7926f7b984df8db2464497e5a7a6d124c758fbcc42416ec3ede09522", func := "ductility/ductilitylaw04.DriveLoops", spec := "driveLoops", unfollowed := true, recurses := true, apart := false, narrowed := true }
def DriveLoopsUptoSaid : Prop := driveLoopsUptoRow.holds Try.pinned (OpenSpec.upto driveLoopsSpec)

end Rows
end Go.Proofs.Ytbcdgfgacigaoaa
