/-
  No cell of these rows narrows 'for every input' (looked for: loops, veiled, ifaces, maps, wideKeys, modest, calm, conditions, laid).
  DERIVED. THE GIVEN ROWS OF THIS SEAT. 3 by the template 'for every input the law returns true; each argument reads behind the call as it read before'; 0 by the template 'total and deterministic' (their statements: YtofjnhppalciiaaTotals.lean).
  GIVEN WITH THE SEED: the statements are not yours to turn. If you find one false, say at which input.
  Laid BY PROGRAM, IN A SANDBOX (cutbox-rows.mjs): the forced cells as the released guide's own fill.sh prints them over the translation 0cc61c275ba34bc0… (all of the seat's roots in one cut). By AI agents, Wed Nov 11 2026. No macro, syntax, notation, axiom, sorry.
-/
import Derived.Test.YtofjnhppalciiaaChecked
import GoSem.Claim
import GoSem.ClaimJoined
import GoSem.ClaimMapViews
import Derived.JoinedTies
import Derived.KernelRfl
namespace Go.Proofs.Ytofjnhppalciiaa
/- THE CELL 'sum', in the pinned program and in every row, IS THE sha256 OF THE DUMP (.gsa) THAT YtofjnhppalciiaaProg.lean LOADS. Nothing in Lean hashes anything: it is a label: what it is worth is what the hold of that sum in a sandbox is worth. -/
noncomputable def Try.pinned : Pinned := { name := "ytofjnhppalciiaa", sum := "0cc61c275ba34bc0e6ab779495b59f495b4ca40ed2cbca92fe833f9adc4a8965", checked := Try.checked }
namespace Rows
def none {H : Type} : Left H := { results := [], args := [] }

/-- 'ductilitylaw07.SensorExplanations': WHATEVER THE INPUT: true; the input reads as it did. -/
def sensorExplanationsSpec : ChangeSpec := { name := "sensorExplanations", fn := fun _ => fun
  | [d1, d2, d3] => { results := [.lit (.bool true)], args := [d1, d2, d3] }
  | _ => none }
def sensorExplanationsRow : OpenClaim := { program := "ytofjnhppalciiaa", sum := "0cc61c275ba34bc0e6ab779495b59f495b4ca40ed2cbca92fe833f9adc4a8965", func := "ductility/ductilitylaw07.SensorExplanations", spec := "sensorExplanations", unfollowed := true, recurses := true, apart := false }
def SensorExplanationsSaid : Prop := sensorExplanationsRow.holds Try.pinned (OpenSpec.ofChange sensorExplanationsSpec)

/-- ITS FALSE NEIGHBOUR: 'it returns false'. Refute it at one input. -/
def sensorExplanationsWrong : ChangeSpec := { name := "sensorExplanations", fn := fun _ => fun
  | [d1, d2, d3] => { results := [.lit (.bool false)], args := [d1, d2, d3] }
  | _ => none }
def SensorExplanationsWrongFalsely : Prop := sensorExplanationsRow.holds Try.pinned (OpenSpec.ofChange sensorExplanationsWrong)

/-- 'ductilitylaw07.SensorValues': WHATEVER THE INPUT: true; the input reads as it did. -/
def sensorValuesSpec : ChangeSpec := { name := "sensorValues", fn := fun _ => fun
  | [d1, d2, d3] => { results := [.lit (.bool true)], args := [d1, d2, d3] }
  | _ => none }
def sensorValuesRow : OpenClaim := { program := "ytofjnhppalciiaa", sum := "0cc61c275ba34bc0e6ab779495b59f495b4ca40ed2cbca92fe833f9adc4a8965", func := "ductility/ductilitylaw07.SensorValues", spec := "sensorValues", unfollowed := true, recurses := true, apart := false }
def SensorValuesSaid : Prop := sensorValuesRow.holds Try.pinned (OpenSpec.ofChange sensorValuesSpec)

/-- ITS FALSE NEIGHBOUR: 'it returns false'. Refute it at one input. -/
def sensorValuesWrong : ChangeSpec := { name := "sensorValues", fn := fun _ => fun
  | [d1, d2, d3] => { results := [.lit (.bool false)], args := [d1, d2, d3] }
  | _ => none }
def SensorValuesWrongFalsely : Prop := sensorValuesRow.holds Try.pinned (OpenSpec.ofChange sensorValuesWrong)

/-- 'ductilitylaw07.SensorFaults': WHATEVER THE INPUT: true; the input reads as it did. -/
def sensorFaultsSpec : ChangeSpec := { name := "sensorFaults", fn := fun _ => fun
  | [d1, d2, d3] => { results := [.lit (.bool true)], args := [d1, d2, d3] }
  | _ => none }
def sensorFaultsRow : OpenClaim := { program := "ytofjnhppalciiaa", sum := "0cc61c275ba34bc0e6ab779495b59f495b4ca40ed2cbca92fe833f9adc4a8965", func := "ductility/ductilitylaw07.SensorFaults", spec := "sensorFaults", unfollowed := true, recurses := true, apart := false }
def SensorFaultsSaid : Prop := sensorFaultsRow.holds Try.pinned (OpenSpec.ofChange sensorFaultsSpec)

/-- ITS FALSE NEIGHBOUR: 'it returns false'. Refute it at one input. -/
def sensorFaultsWrong : ChangeSpec := { name := "sensorFaults", fn := fun _ => fun
  | [d1, d2, d3] => { results := [.lit (.bool false)], args := [d1, d2, d3] }
  | _ => none }
def SensorFaultsWrongFalsely : Prop := sensorFaultsRow.holds Try.pinned (OpenSpec.ofChange sensorFaultsWrong)

/- THE SECOND FORM. 'bulk': how many values and letters a reading holds, each counted each time it is reached (what is shared counts as often as it is met; a slice's spare places count too). A statement '..UptoSaid' is the law's where the arguments, and the package variables that the reading takes, are together of bulk at most 1048576: NARROWER than '..Said'. Prove '..Said' where nothing that the law and all that it calls make is longer than what came in: it says more and counts as full. Else prove '..UptoSaid'. A law counts once. -/
mutual
def uptoBulk {H : Type} : DataW H → Nat
  | .lit (.string bytes) => bytes.length + 1
  | .lit _ => 1
  | .nil => 1
  | .ptr d => uptoBulk d + 1
  | .slice elems spare => uptoBulkAll elems + uptoBulkAll spare + 1
  | .agg parts => uptoBulkAll parts + 1
  | .iface _ d => uptoBulk d + 1
  | .map entries => uptoBulkEntries entries + 1
  | .held _ => 1
def uptoBulkAll {H : Type} : List (DataW H) → Nat
  | [] => 0
  | d :: r => uptoBulk d + uptoBulkAll r
def uptoBulkEntries {H : Type} : List (Lit × DataW H) → Nat
  | [] => 0
  | x :: r => uptoBulkEntry x + uptoBulkEntries r
def uptoBulkEntry {H : Type} : Lit × DataW H → Nat
  | (.string bytes, d) => bytes.length + uptoBulk d + 1
  | (_, d) => uptoBulk d + 1
 end
def uptoSmall : (H : Type) → List (DataW H) → Bool := fun _ ds => decide (uptoBulkAll ds ≤ 1048576)
def OpenSpec.upto (s : _root_.Go.ChangeSpec) : _root_.Go.OpenSpec := { _root_.Go.OpenSpec.ofChange s with cond := some uptoSmall }

/-- 'ductilitylaw07.SensorExplanations', WHERE WHAT IT READS IS OF BULK AT MOST 1048576: true; the input reads as it did. -/
def sensorExplanationsUptoRow : OpenClaim := { program := "ytofjnhppalciiaa", sum := "0cc61c275ba34bc0e6ab779495b59f495b4ca40ed2cbca92fe833f9adc4a8965", func := "ductility/ductilitylaw07.SensorExplanations", spec := "sensorExplanations", unfollowed := true, recurses := true, apart := false, narrowed := true }
def SensorExplanationsUptoSaid : Prop := sensorExplanationsUptoRow.holds Try.pinned (OpenSpec.upto sensorExplanationsSpec)

/-- 'ductilitylaw07.SensorValues', WHERE WHAT IT READS IS OF BULK AT MOST 1048576: true; the input reads as it did. -/
def sensorValuesUptoRow : OpenClaim := { program := "ytofjnhppalciiaa", sum := "0cc61c275ba34bc0e6ab779495b59f495b4ca40ed2cbca92fe833f9adc4a8965", func := "ductility/ductilitylaw07.SensorValues", spec := "sensorValues", unfollowed := true, recurses := true, apart := false, narrowed := true }
def SensorValuesUptoSaid : Prop := sensorValuesUptoRow.holds Try.pinned (OpenSpec.upto sensorValuesSpec)

/-- 'ductilitylaw07.SensorFaults', WHERE WHAT IT READS IS OF BULK AT MOST 1048576: true; the input reads as it did. -/
def sensorFaultsUptoRow : OpenClaim := { program := "ytofjnhppalciiaa", sum := "0cc61c275ba34bc0e6ab779495b59f495b4ca40ed2cbca92fe833f9adc4a8965", func := "ductility/ductilitylaw07.SensorFaults", spec := "sensorFaults", unfollowed := true, recurses := true, apart := false, narrowed := true }
def SensorFaultsUptoSaid : Prop := sensorFaultsUptoRow.holds Try.pinned (OpenSpec.upto sensorFaultsSpec)

end Rows
end Go.Proofs.Ytofjnhppalciiaa
