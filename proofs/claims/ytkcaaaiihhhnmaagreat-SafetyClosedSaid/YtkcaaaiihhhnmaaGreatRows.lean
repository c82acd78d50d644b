/-
  No cell of these rows narrows 'for every input' (looked for: loops, veiled, ifaces, maps, wideKeys, modest, calm, conditions, laid).
  DERIVED. THE GIVEN ROWS OF THIS SEAT. 9 by the template 'for every input the law returns true; each argument reads behind the call as it read before'; 0 by the template 'total and deterministic' (their statements: YtkcaaaiihhhnmaaGreatTotals.lean).
  GIVEN WITH THE SEED: the statements are not yours to turn. If you find one false, say at which input.
  Laid BY PROGRAM, IN A SANDBOX (cutbox-rows.mjs): the forced cells as the released guide's own fill.sh prints them over the translation 385de6073123e5b8… (all of the seat's roots in one cut). By AI agents, Wed Nov 11 2026. No macro, syntax, notation, axiom, sorry.
-/
import Derived.Test.YtkcaaaiihhhnmaaGreatChecked
import GoSem.Claim
import GoSem.ClaimJoined
import GoSem.ClaimMapViews
import Derived.JoinedTies
import Derived.KernelRfl
namespace Go.Proofs.YtkcaaaiihhhnmaaGreat
/- THE CELL 'sum', in the pinned program and in every row, IS THE sha256 OF THE DUMP (.gsa) THAT YtkcaaaiihhhnmaaGreatProg.lean LOADS. Nothing in Lean hashes anything: it is a label: what it is worth is what the hold of that sum in a sandbox is worth. -/
noncomputable def Tryz.pinned : Pinned := { name := "ytkcaaaiihhhnmaagreat", sum := "385de6073123e5b8660d1c94e219a669312f9dcff34b3767c4d4a16336795d96", checked := Tryz.checked }
namespace Rows
def none {H : Type} : Left H := { results := [], args := [] }

/-- 'ductilitylaw09.SafetyZones': WHATEVER THE INPUT: true; the input reads as it did. -/
def safetyZonesSpec : ChangeSpec := { name := "safetyZones", fn := fun _ => fun
  | [d1, d2, d3] => { results := [.lit (.bool true)], args := [d1, d2, d3] }
  | _ => none }
def safetyZonesRow : OpenClaim := { program := "ytkcaaaiihhhnmaagreat", sum := "385de6073123e5b8660d1c94e219a669312f9dcff34b3767c4d4a16336795d96", func := "ductility/ductilitylaw09.SafetyZones", spec := "safetyZones", unfollowed := true, recurses := true, plainKeys := false, apart := false }
def SafetyZonesSaid : Prop := safetyZonesRow.holds Tryz.pinned (OpenSpec.ofChange safetyZonesSpec)

/-- ITS FALSE NEIGHBOUR: 'it returns false'. Refute it at one input. -/
def safetyZonesWrong : ChangeSpec := { name := "safetyZones", fn := fun _ => fun
  | [d1, d2, d3] => { results := [.lit (.bool false)], args := [d1, d2, d3] }
  | _ => none }
def SafetyZonesWrongFalsely : Prop := safetyZonesRow.holds Tryz.pinned (OpenSpec.ofChange safetyZonesWrong)

/-- 'ductilitylaw09.SafetyGates': WHATEVER THE INPUT: true; the input reads as it did. -/
def safetyGatesSpec : ChangeSpec := { name := "safetyGates", fn := fun _ => fun
  | [d1, d2, d3] => { results := [.lit (.bool true)], args := [d1, d2, d3] }
  | _ => none }
def safetyGatesRow : OpenClaim := { program := "ytkcaaaiihhhnmaagreat", sum := "385de6073123e5b8660d1c94e219a669312f9dcff34b3767c4d4a16336795d96", func := "ductility/ductilitylaw09.SafetyGates", spec := "safetyGates", unfollowed := true, recurses := true, plainKeys := false, apart := false }
def SafetyGatesSaid : Prop := safetyGatesRow.holds Tryz.pinned (OpenSpec.ofChange safetyGatesSpec)

/-- ITS FALSE NEIGHBOUR: 'it returns false'. Refute it at one input. -/
def safetyGatesWrong : ChangeSpec := { name := "safetyGates", fn := fun _ => fun
  | [d1, d2, d3] => { results := [.lit (.bool false)], args := [d1, d2, d3] }
  | _ => none }
def SafetyGatesWrongFalsely : Prop := safetyGatesRow.holds Tryz.pinned (OpenSpec.ofChange safetyGatesWrong)

/-- 'ductilitylaw09.SafetyBehind': WHATEVER THE INPUT: true; the input reads as it did. -/
def safetyBehindSpec : ChangeSpec := { name := "safetyBehind", fn := fun _ => fun
  | [d1, d2, d3] => { results := [.lit (.bool true)], args := [d1, d2, d3] }
  | _ => none }
def safetyBehindRow : OpenClaim := { program := "ytkcaaaiihhhnmaagreat", sum := "385de6073123e5b8660d1c94e219a669312f9dcff34b3767c4d4a16336795d96", func := "ductility/ductilitylaw09.SafetyBehind", spec := "safetyBehind", unfollowed := true, recurses := true, plainKeys := false, apart := false }
def SafetyBehindSaid : Prop := safetyBehindRow.holds Tryz.pinned (OpenSpec.ofChange safetyBehindSpec)

/-- ITS FALSE NEIGHBOUR: 'it returns false'. Refute it at one input. -/
def safetyBehindWrong : ChangeSpec := { name := "safetyBehind", fn := fun _ => fun
  | [d1, d2, d3] => { results := [.lit (.bool false)], args := [d1, d2, d3] }
  | _ => none }
def SafetyBehindWrongFalsely : Prop := safetyBehindRow.holds Tryz.pinned (OpenSpec.ofChange safetyBehindWrong)

/-- 'ductilitylaw09.SafetyWays': WHATEVER THE INPUT: true; the input reads as it did. -/
def safetyWaysSpec : ChangeSpec := { name := "safetyWays", fn := fun _ => fun
  | [d1, d2] => { results := [.lit (.bool true)], args := [d1, d2] }
  | _ => none }
def safetyWaysRow : OpenClaim := { program := "ytkcaaaiihhhnmaagreat", sum := "385de6073123e5b8660d1c94e219a669312f9dcff34b3767c4d4a16336795d96", func := "ductility/ductilitylaw09.SafetyWays", spec := "safetyWays", unfollowed := true, recurses := true, plainKeys := false, apart := false }
def SafetyWaysSaid : Prop := safetyWaysRow.holds Tryz.pinned (OpenSpec.ofChange safetyWaysSpec)

/-- ITS FALSE NEIGHBOUR: 'it returns false'. Refute it at one input. -/
def safetyWaysWrong : ChangeSpec := { name := "safetyWays", fn := fun _ => fun
  | [d1, d2] => { results := [.lit (.bool false)], args := [d1, d2] }
  | _ => none }
def SafetyWaysWrongFalsely : Prop := safetyWaysRow.holds Tryz.pinned (OpenSpec.ofChange safetyWaysWrong)

/-- 'ductilitylaw09.SafetyStops': WHATEVER THE INPUT: true; the input reads as it did. -/
def safetyStopsSpec : ChangeSpec := { name := "safetyStops", fn := fun _ => fun
  | [d1, d2, d3] => { results := [.lit (.bool true)], args := [d1, d2, d3] }
  | _ => none }
def safetyStopsRow : OpenClaim := { program := "ytkcaaaiihhhnmaagreat", sum := "385de6073123e5b8660d1c94e219a669312f9dcff34b3767c4d4a16336795d96", func := "ductility/ductilitylaw09.SafetyStops", spec := "safetyStops", unfollowed := true, recurses := true, plainKeys := false, apart := false }
def SafetyStopsSaid : Prop := safetyStopsRow.holds Tryz.pinned (OpenSpec.ofChange safetyStopsSpec)

/-- ITS FALSE NEIGHBOUR: 'it returns false'. Refute it at one input. -/
def safetyStopsWrong : ChangeSpec := { name := "safetyStops", fn := fun _ => fun
  | [d1, d2, d3] => { results := [.lit (.bool false)], args := [d1, d2, d3] }
  | _ => none }
def SafetyStopsWrongFalsely : Prop := safetyStopsRow.holds Tryz.pinned (OpenSpec.ofChange safetyStopsWrong)

/-- 'ductilitylaw09.SafetyMachines': WHATEVER THE INPUT: true; the input reads as it did. -/
def safetyMachinesSpec : ChangeSpec := { name := "safetyMachines", fn := fun _ => fun
  | [d1, d2, d3] => { results := [.lit (.bool true)], args := [d1, d2, d3] }
  | _ => none }
def safetyMachinesRow : OpenClaim := { program := "ytkcaaaiihhhnmaagreat", sum := "385de6073123e5b8660d1c94e219a669312f9dcff34b3767c4d4a16336795d96", func := "ductility/ductilitylaw09.SafetyMachines", spec := "safetyMachines", unfollowed := true, recurses := true, plainKeys := false, apart := false }
def SafetyMachinesSaid : Prop := safetyMachinesRow.holds Tryz.pinned (OpenSpec.ofChange safetyMachinesSpec)

/-- ITS FALSE NEIGHBOUR: 'it returns false'. Refute it at one input. -/
def safetyMachinesWrong : ChangeSpec := { name := "safetyMachines", fn := fun _ => fun
  | [d1, d2, d3] => { results := [.lit (.bool false)], args := [d1, d2, d3] }
  | _ => none }
def SafetyMachinesWrongFalsely : Prop := safetyMachinesRow.holds Tryz.pinned (OpenSpec.ofChange safetyMachinesWrong)

/-- 'ductilitylaw09.SafetyWatchers': WHATEVER THE INPUT: true; the input reads as it did. -/
def safetyWatchersSpec : ChangeSpec := { name := "safetyWatchers", fn := fun _ => fun
  | [d1, d2, d3] => { results := [.lit (.bool true)], args := [d1, d2, d3] }
  | _ => none }
def safetyWatchersRow : OpenClaim := { program := "ytkcaaaiihhhnmaagreat", sum := "385de6073123e5b8660d1c94e219a669312f9dcff34b3767c4d4a16336795d96", func := "ductility/ductilitylaw09.SafetyWatchers", spec := "safetyWatchers", unfollowed := true, recurses := true, plainKeys := false, apart := false }
def SafetyWatchersSaid : Prop := safetyWatchersRow.holds Tryz.pinned (OpenSpec.ofChange safetyWatchersSpec)

/-- ITS FALSE NEIGHBOUR: 'it returns false'. Refute it at one input. -/
def safetyWatchersWrong : ChangeSpec := { name := "safetyWatchers", fn := fun _ => fun
  | [d1, d2, d3] => { results := [.lit (.bool false)], args := [d1, d2, d3] }
  | _ => none }
def SafetyWatchersWrongFalsely : Prop := safetyWatchersRow.holds Tryz.pinned (OpenSpec.ofChange safetyWatchersWrong)

/-- 'ductilitylaw09.SafetyAtRest': WHATEVER THE INPUT: true; the input reads as it did. -/
def safetyAtRestSpec : ChangeSpec := { name := "safetyAtRest", fn := fun _ => fun
  | [d1, d2, d3] => { results := [.lit (.bool true)], args := [d1, d2, d3] }
  | _ => none }
def safetyAtRestRow : OpenClaim := { program := "ytkcaaaiihhhnmaagreat", sum := "385de6073123e5b8660d1c94e219a669312f9dcff34b3767c4d4a16336795d96", func := "ductility/ductilitylaw09.SafetyAtRest", spec := "safetyAtRest", unfollowed := true, recurses := true, plainKeys := false, apart := false }
def SafetyAtRestSaid : Prop := safetyAtRestRow.holds Tryz.pinned (OpenSpec.ofChange safetyAtRestSpec)

/-- ITS FALSE NEIGHBOUR: 'it returns false'. Refute it at one input. -/
def safetyAtRestWrong : ChangeSpec := { name := "safetyAtRest", fn := fun _ => fun
  | [d1, d2, d3] => { results := [.lit (.bool false)], args := [d1, d2, d3] }
  | _ => none }
def SafetyAtRestWrongFalsely : Prop := safetyAtRestRow.holds Tryz.pinned (OpenSpec.ofChange safetyAtRestWrong)

/-- 'ductilitylaw09.SafetyClosed': WHATEVER THE INPUT: true; the input reads as it did. -/
def safetyClosedSpec : ChangeSpec := { name := "safetyClosed", fn := fun _ => fun
  | [d1, d2, d3] => { results := [.lit (.bool true)], args := [d1, d2, d3] }
  | _ => none }
def safetyClosedRow : OpenClaim := { program := "ytkcaaaiihhhnmaagreat", sum := "385de6073123e5b8660d1c94e219a669312f9dcff34b3767c4d4a16336795d96", func := "ductility/ductilitylaw09.SafetyClosed", spec := "safetyClosed", unfollowed := true, recurses := true, plainKeys := false, apart := false }
def SafetyClosedSaid : Prop := safetyClosedRow.holds Tryz.pinned (OpenSpec.ofChange safetyClosedSpec)

/-- ITS FALSE NEIGHBOUR: 'it returns false'. Refute it at one input. -/
def safetyClosedWrong : ChangeSpec := { name := "safetyClosed", fn := fun _ => fun
  | [d1, d2, d3] => { results := [.lit (.bool false)], args := [d1, d2, d3] }
  | _ => none }
def SafetyClosedWrongFalsely : Prop := safetyClosedRow.holds Tryz.pinned (OpenSpec.ofChange safetyClosedWrong)

/- THE SECOND FORM. 'bulk': how many values and letters a reading holds, each counted each time it is reached (what is shared counts as often as it is met; a slice's spare places count too). A statement '..UptoSaid' is the law's where the arguments, and the package variables that the reading takes, are together of bulk at most 1048576: NARROWER than '..Said'. Prove '..Said' where nothing that the law and all that it calls make is longer than what came in: it says more and counts as full. Else prove '..UptoSaid'. A law counts once. -/
mutual
def uptoBulk {H : Type} : DataW H → Nat
  | .lit (.string bytes) => bytes.length + 1
  | .lit _ => 1
  | .nil => 1
  | .ptr d => uptoBulk d + 1
  | .slice elems spare => uptoBulkAll elems + uptoBulkAll spare + 1
  | .agg parts => uptoBulkAll parts + 1
  | .iface _ d => uptoBulk d + 1
  | .map entries => uptoBulkEntries entries + 1
  | .held _ => 1
def uptoBulkAll {H : Type} : List (DataW H) → Nat
  | [] => 0
  | d :: r => uptoBulk d + uptoBulkAll r
def uptoBulkEntries {H : Type} : List (Lit × DataW H) → Nat
  | [] => 0
  | x :: r => uptoBulkEntry x + uptoBulkEntries r
def uptoBulkEntry {H : Type} : Lit × DataW H → Nat
  | (.string bytes, d) => bytes.length + uptoBulk d + 1
  | (_, d) => uptoBulk d + 1
 end
def uptoSmall : (H : Type) → List (DataW H) → Bool := fun _ ds => decide (uptoBulkAll ds ≤ 1048576)
def OpenSpec.upto (s : _root_.Go.ChangeSpec) : _root_.Go.OpenSpec := { _root_.Go.OpenSpec.ofChange s with cond := some uptoSmall }

/-- 'ductilitylaw09.SafetyZones', WHERE WHAT IT READS IS OF BULK AT MOST 1048576: true; the input reads as it did. -/
def safetyZonesUptoRow : OpenClaim := { program := "ytkcaaaiihhhnmaagreat", sum := "385de6073123e5b8660d1c94e219a669312f9dcff34b3767c4d4a16336795d96", func := "ductility/ductilitylaw09.SafetyZones", spec := "safetyZones", unfollowed := true, recurses := true, plainKeys := false, apart := false, narrowed := true }
def SafetyZonesUptoSaid : Prop := safetyZonesUptoRow.holds Tryz.pinned (OpenSpec.upto safetyZonesSpec)

/-- 'ductilitylaw09.SafetyGates', WHERE WHAT IT READS IS OF BULK AT MOST 1048576: true; the input reads as it did. -/
def safetyGatesUptoRow : OpenClaim := { program := "ytkcaaaiihhhnmaagreat", sum := "385de6073123e5b8660d1c94e219a669312f9dcff34b3767c4d4a16336795d96", func := "ductility/ductilitylaw09.SafetyGates", spec := "safetyGates", unfollowed := true, recurses := true, plainKeys := false, apart := false, narrowed := true }
def SafetyGatesUptoSaid : Prop := safetyGatesUptoRow.holds Tryz.pinned (OpenSpec.upto safetyGatesSpec)

/-- 'ductilitylaw09.SafetyBehind', WHERE WHAT IT READS IS OF BULK AT MOST 1048576: true; the input reads as it did. -/
def safetyBehindUptoRow : OpenClaim := { program := "ytkcaaaiihhhnmaagreat", sum := "385de6073123e5b8660d1c94e219a669312f9dcff34b3767c4d4a16336795d96", func := "ductility/ductilitylaw09.SafetyBehind", spec := "safetyBehind", unfollowed := true, recurses := true, plainKeys := false, apart := false, narrowed := true }
def SafetyBehindUptoSaid : Prop := safetyBehindUptoRow.holds Tryz.pinned (OpenSpec.upto safetyBehindSpec)

/-- 'ductilitylaw09.SafetyWays', WHERE WHAT IT READS IS OF BULK AT MOST 1048576: true; the input reads as it did. -/
def safetyWaysUptoRow : OpenClaim := { program := "ytkcaaaiihhhnmaagreat", sum := "385de6073123e5b8660d1c94e219a669312f9dcff34b3767c4d4a16336795d96", func := "ductility/ductilitylaw09.SafetyWays", spec := "safetyWays", unfollowed := true, recurses := true, plainKeys := false, apart := false, narrowed := true }
def SafetyWaysUptoSaid : Prop := safetyWaysUptoRow.holds Tryz.pinned (OpenSpec.upto safetyWaysSpec)

/-- 'ductilitylaw09.SafetyStops', WHERE WHAT IT READS IS OF BULK AT MOST 1048576: true; the input reads as it did. -/
def safetyStopsUptoRow : OpenClaim := { program := "ytkcaaaiihhhnmaagreat", sum := "385de6073123e5b8660d1c94e219a669312f9dcff34b3767c4d4a16336795d96", func := "ductility/ductilitylaw09.SafetyStops", spec := "safetyStops", unfollowed := true, recurses := true, plainKeys := false, apart := false, narrowed := true }
def SafetyStopsUptoSaid : Prop := safetyStopsUptoRow.holds Tryz.pinned (OpenSpec.upto safetyStopsSpec)

/-- 'ductilitylaw09.SafetyMachines', WHERE WHAT IT READS IS OF BULK AT MOST 1048576: true; the input reads as it did. -/
def safetyMachinesUptoRow : OpenClaim := { program := "ytkcaaaiihhhnmaagreat", sum := "385de6073123e5b8660d1c94e219a669312f9dcff34b3767c4d4a16336795d96", func := "ductility/ductilitylaw09.SafetyMachines", spec := "safetyMachines", unfollowed := true, recurses := true, plainKeys := false, apart := false, narrowed := true }
def SafetyMachinesUptoSaid : Prop := safetyMachinesUptoRow.holds Tryz.pinned (OpenSpec.upto safetyMachinesSpec)

/-- 'ductilitylaw09.SafetyWatchers', WHERE WHAT IT READS IS OF BULK AT MOST 1048576: true; the input reads as it did. -/
def safetyWatchersUptoRow : OpenClaim := { program := "ytkcaaaiihhhnmaagreat", sum := "385de6073123e5b8660d1c94e219a669312f9dcff34b3767c4d4a16336795d96", func := "ductility/ductilitylaw09.SafetyWatchers", spec := "safetyWatchers", unfollowed := true, recurses := true, plainKeys := false, apart := false, narrowed := true }
def SafetyWatchersUptoSaid : Prop := safetyWatchersUptoRow.holds Tryz.pinned (OpenSpec.upto safetyWatchersSpec)

/-- 'ductilitylaw09.SafetyAtRest', WHERE WHAT IT READS IS OF BULK AT MOST 1048576: true; the input reads as it did. -/
def safetyAtRestUptoRow : OpenClaim := { program := "ytkcaaaiihhhnmaagreat", sum := "385de6073123e5b8660d1c94e219a669312f9dcff34b3767c4d4a16336795d96", func := "ductility/ductilitylaw09.SafetyAtRest", spec := "safetyAtRest", unfollowed := true, recurses := true, plainKeys := false, apart := false, narrowed := true }
def SafetyAtRestUptoSaid : Prop := safetyAtRestUptoRow.holds Tryz.pinned (OpenSpec.upto safetyAtRestSpec)

/-- 'ductilitylaw09.SafetyClosed', WHERE WHAT IT READS IS OF BULK AT MOST 1048576: true; the input reads as it did. -/
def safetyClosedUptoRow : OpenClaim := { program := "ytkcaaaiihhhnmaagreat", sum := "385de6073123e5b8660d1c94e219a669312f9dcff34b3767c4d4a16336795d96", func := "ductility/ductilitylaw09.SafetyClosed", spec := "safetyClosed", unfollowed := true, recurses := true, plainKeys := false, apart := false, narrowed := true }
def SafetyClosedUptoSaid : Prop := safetyClosedUptoRow.holds Tryz.pinned (OpenSpec.upto safetyClosedSpec)

end Rows
end Go.Proofs.YtkcaaaiihhhnmaaGreat
