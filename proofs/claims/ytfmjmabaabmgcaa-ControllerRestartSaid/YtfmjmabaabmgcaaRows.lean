/-
  No cell of these rows narrows 'for every input' (looked for: loops, veiled, ifaces, maps, wideKeys, modest, calm, conditions, laid).
  DERIVED. THE GIVEN ROWS OF THIS SEAT. 7 by the template 'for every input the law returns true; each argument reads behind the call as it read before'; 0 by the template 'total and deterministic' (their statements: YtfmjmabaabmgcaaTotals.lean).
  GIVEN WITH THE SEED: the statements are not yours to turn. If you find one false, say at which input.
  Laid BY PROGRAM, IN A SANDBOX (cutbox-rows.mjs): the forced cells as the released guide's own fill.sh prints them over the translation e2d453ce62fa9af8… (all of the seat's roots in one cut). By AI agents, Wed Nov 11 2026. No macro, syntax, notation, axiom, sorry.
-/
import Derived.Test.YtfmjmabaabmgcaaChecked
import GoSem.Claim
import GoSem.ClaimJoined
import GoSem.ClaimMapViews
import Derived.JoinedTies
import Derived.KernelRfl
namespace Go.Proofs.Ytfmjmabaabmgcaa
/- THE CELL 'sum', in the pinned program and in every row, IS THE sha256 OF THE DUMP (.gsa) THAT YtfmjmabaabmgcaaProg.lean LOADS. Nothing in Lean hashes anything: it is a label: what it is worth is what the hold of that sum in a sandbox is worth. -/
noncomputable def Try.pinned : Pinned := { name := "ytfmjmabaabmgcaa", sum := "e2d453ce62fa9af8fca20b029b60dba9812743443a770f8e4b029131ad9ec2af", checked := Try.checked }
namespace Rows
def none {H : Type} : Left H := { results := [], args := [] }

/-- 'swarflaw50.ControllerNew': WHATEVER THE INPUT: true; the input reads as it did. -/
def controllerNewSpec : ChangeSpec := { name := "controllerNew", fn := fun _ => fun
  | [d1, d2] => { results := [.lit (.bool true)], args := [d1, d2] }
  | _ => none }
def controllerNewRow : OpenClaim := { program := "ytfmjmabaabmgcaa", sum := "e2d453ce62fa9af8fca20b029b60dba9812743443a770f8e4b029131ad9ec2af", func := "swarf/swarflaw50.ControllerNew", spec := "controllerNew", inPlace := ["math.sqrt"], unfollowed := true, recurses := true, apart := false }
def ControllerNewSaid : Prop := controllerNewRow.holds Try.pinned (OpenSpec.ofChange controllerNewSpec)

/-- ITS FALSE NEIGHBOUR: 'it returns false'. Refute it at one input. -/
def controllerNewWrong : ChangeSpec := { name := "controllerNew", fn := fun _ => fun
  | [d1, d2] => { results := [.lit (.bool false)], args := [d1, d2] }
  | _ => none }
def ControllerNewWrongFalsely : Prop := controllerNewRow.holds Try.pinned (OpenSpec.ofChange controllerNewWrong)

/-- 'swarflaw50.ControllerRun': WHATEVER THE INPUT: true; the input reads as it did. -/
def controllerRunSpec : ChangeSpec := { name := "controllerRun", fn := fun _ => fun
  | [d1, d2] => { results := [.lit (.bool true)], args := [d1, d2] }
  | _ => none }
def controllerRunRow : OpenClaim := { program := "ytfmjmabaabmgcaa", sum := "e2d453ce62fa9af8fca20b029b60dba9812743443a770f8e4b029131ad9ec2af", func := "swarf/swarflaw50.ControllerRun", spec := "controllerRun", inPlace := ["math.sqrt"], unfollowed := true, recurses := true, apart := false }
def ControllerRunSaid : Prop := controllerRunRow.holds Try.pinned (OpenSpec.ofChange controllerRunSpec)

/-- ITS FALSE NEIGHBOUR: 'it returns false'. Refute it at one input. -/
def controllerRunWrong : ChangeSpec := { name := "controllerRun", fn := fun _ => fun
  | [d1, d2] => { results := [.lit (.bool false)], args := [d1, d2] }
  | _ => none }
def ControllerRunWrongFalsely : Prop := controllerRunRow.holds Try.pinned (OpenSpec.ofChange controllerRunWrong)

/-- 'swarflaw50.ControllerRestart': WHATEVER THE INPUT: true; the input reads as it did. -/
def controllerRestartSpec : ChangeSpec := { name := "controllerRestart", fn := fun _ => fun
  | [d1, d2, d3] => { results := [.lit (.bool true)], args := [d1, d2, d3] }
  | _ => none }
def controllerRestartRow : OpenClaim := { program := "ytfmjmabaabmgcaa", sum := "e2d453ce62fa9af8fca20b029b60dba9812743443a770f8e4b029131ad9ec2af", func := "swarf/swarflaw50.ControllerRestart", spec := "controllerRestart", inPlace := ["math.sqrt"], unfollowed := true, recurses := true, apart := false }
def ControllerRestartSaid : Prop := controllerRestartRow.holds Try.pinned (OpenSpec.ofChange controllerRestartSpec)

/-- ITS FALSE NEIGHBOUR: 'it returns false'. Refute it at one input. -/
def controllerRestartWrong : ChangeSpec := { name := "controllerRestart", fn := fun _ => fun
  | [d1, d2, d3] => { results := [.lit (.bool false)], args := [d1, d2, d3] }
  | _ => none }
def ControllerRestartWrongFalsely : Prop := controllerRestartRow.holds Try.pinned (OpenSpec.ofChange controllerRestartWrong)

/-- 'swarflaw50.ControllerHolds': WHATEVER THE INPUT: true; the input reads as it did. -/
def controllerHoldsSpec : ChangeSpec := { name := "controllerHolds", fn := fun _ => fun
  | [d1, d2, d3] => { results := [.lit (.bool true)], args := [d1, d2, d3] }
  | _ => none }
def controllerHoldsRow : OpenClaim := { program := "ytfmjmabaabmgcaa", sum := "e2d453ce62fa9af8fca20b029b60dba9812743443a770f8e4b029131ad9ec2af", func := "swarf/swarflaw50.ControllerHolds", spec := "controllerHolds", inPlace := ["math.sqrt"], unfollowed := true, recurses := true, apart := false }
def ControllerHoldsSaid : Prop := controllerHoldsRow.holds Try.pinned (OpenSpec.ofChange controllerHoldsSpec)

/-- ITS FALSE NEIGHBOUR: 'it returns false'. Refute it at one input. -/
def controllerHoldsWrong : ChangeSpec := { name := "controllerHolds", fn := fun _ => fun
  | [d1, d2, d3] => { results := [.lit (.bool false)], args := [d1, d2, d3] }
  | _ => none }
def ControllerHoldsWrongFalsely : Prop := controllerHoldsRow.holds Try.pinned (OpenSpec.ofChange controllerHoldsWrong)

/-- 'swarflaw50.ControllerRests': WHATEVER THE INPUT: true; the input reads as it did. -/
def controllerRestsSpec : ChangeSpec := { name := "controllerRests", fn := fun _ => fun
  | [d1, d2, d3] => { results := [.lit (.bool true)], args := [d1, d2, d3] }
  | _ => none }
def controllerRestsRow : OpenClaim := { program := "ytfmjmabaabmgcaa", sum := "e2d453ce62fa9af8fca20b029b60dba9812743443a770f8e4b029131ad9ec2af", func := "swarf/swarflaw50.ControllerRests", spec := "controllerRests", inPlace := ["math.sqrt"], unfollowed := true, recurses := true, apart := false }
def ControllerRestsSaid : Prop := controllerRestsRow.holds Try.pinned (OpenSpec.ofChange controllerRestsSpec)

/-- ITS FALSE NEIGHBOUR: 'it returns false'. Refute it at one input. -/
def controllerRestsWrong : ChangeSpec := { name := "controllerRests", fn := fun _ => fun
  | [d1, d2, d3] => { results := [.lit (.bool false)], args := [d1, d2, d3] }
  | _ => none }
def ControllerRestsWrongFalsely : Prop := controllerRestsRow.holds Try.pinned (OpenSpec.ofChange controllerRestsWrong)

/-- 'swarflaw50.ControllerEvents': WHATEVER THE INPUT: true; the input reads as it did. -/
def controllerEventsSpec : ChangeSpec := { name := "controllerEvents", fn := fun _ => fun
  | [d1, d2, d3] => { results := [.lit (.bool true)], args := [d1, d2, d3] }
  | _ => none }
def controllerEventsRow : OpenClaim := { program := "ytfmjmabaabmgcaa", sum := "e2d453ce62fa9af8fca20b029b60dba9812743443a770f8e4b029131ad9ec2af", func := "swarf/swarflaw50.ControllerEvents", spec := "controllerEvents", inPlace := ["math.sqrt"], unfollowed := true, recurses := true, apart := false }
def ControllerEventsSaid : Prop := controllerEventsRow.holds Try.pinned (OpenSpec.ofChange controllerEventsSpec)

/-- ITS FALSE NEIGHBOUR: 'it returns false'. Refute it at one input. -/
def controllerEventsWrong : ChangeSpec := { name := "controllerEvents", fn := fun _ => fun
  | [d1, d2, d3] => { results := [.lit (.bool false)], args := [d1, d2, d3] }
  | _ => none }
def ControllerEventsWrongFalsely : Prop := controllerEventsRow.holds Try.pinned (OpenSpec.ofChange controllerEventsWrong)

/-- 'swarflaw50.ControllerBreak': WHATEVER THE INPUT: true; the input reads as it did. -/
def controllerBreakSpec : ChangeSpec := { name := "controllerBreak", fn := fun _ => fun
  | [d1, d2, d3] => { results := [.lit (.bool true)], args := [d1, d2, d3] }
  | _ => none }
def controllerBreakRow : OpenClaim := { program := "ytfmjmabaabmgcaa", sum := "e2d453ce62fa9af8fca20b029b60dba9812743443a770f8e4b029131ad9ec2af", func := "swarf/swarflaw50.ControllerBreak", spec := "controllerBreak", inPlace := ["math.sqrt"], unfollowed := true, recurses := true, apart := false }
def ControllerBreakSaid : Prop := controllerBreakRow.holds Try.pinned (OpenSpec.ofChange controllerBreakSpec)

/-- ITS FALSE NEIGHBOUR: 'it returns false'. Refute it at one input. -/
def controllerBreakWrong : ChangeSpec := { name := "controllerBreak", fn := fun _ => fun
  | [d1, d2, d3] => { results := [.lit (.bool false)], args := [d1, d2, d3] }
  | _ => none }
def ControllerBreakWrongFalsely : Prop := controllerBreakRow.holds Try.pinned (OpenSpec.ofChange controllerBreakWrong)

/- THE SECOND FORM. 'bulk': how many values and letters a reading holds, each counted each time it is reached (what is shared counts as often as it is met; a slice's spare places count too). A statement '..UptoSaid' is the law's where the arguments, and the package variables that the reading takes, are together of bulk at most 1048576: NARROWER than '..Said'. Prove '..Said' where nothing that the law and all that it calls make is longer than what came in: it says more and counts as full. Else prove '..UptoSaid'. A law counts once. -/
mutual
def uptoBulk {H : Type} : DataW H → Nat
  | .lit (.string bytes) => bytes.length + 1
  | .lit _ => 1
  | .nil => 1
  | .ptr d => uptoBulk d + 1
  | .slice elems spare => uptoBulkAll elems + uptoBulkAll spare + 1
  | .agg parts => uptoBulkAll parts + 1
  | .iface _ d => uptoBulk d + 1
  | .map entries => uptoBulkEntries entries + 1
  | .held _ => 1
def uptoBulkAll {H : Type} : List (DataW H) → Nat
  | [] => 0
  | d :: r => uptoBulk d + uptoBulkAll r
def uptoBulkEntries {H : Type} : List (Lit × DataW H) → Nat
  | [] => 0
  | x :: r => uptoBulkEntry x + uptoBulkEntries r
def uptoBulkEntry {H : Type} : Lit × DataW H → Nat
  | (.string bytes, d) => bytes.length + uptoBulk d + 1
  | (_, d) => uptoBulk d + 1
 end
def uptoSmall : (H : Type) → List (DataW H) → Bool := fun _ ds => decide (uptoBulkAll ds ≤ 1048576)
def OpenSpec.upto (s : _root_.Go.ChangeSpec) : _root_.Go.OpenSpec := { _root_.Go.OpenSpec.ofChange s with cond := some uptoSmall }

/-- 'swarflaw50.ControllerNew', WHERE WHAT IT READS IS OF BULK AT MOST 1048576: true; the input reads as it did. -/
def controllerNewUptoRow : OpenClaim := { program := "ytfmjmabaabmgcaa", sum := "e2d453ce62fa9af8fca20b029b60dba9812743443a770f8e4b029131ad9ec2af", func := "swarf/swarflaw50.ControllerNew", spec := "controllerNew", inPlace := ["math.sqrt"], unfollowed := true, recurses := true, apart := false, narrowed := true }
def ControllerNewUptoSaid : Prop := controllerNewUptoRow.holds Try.pinned (OpenSpec.upto controllerNewSpec)

/-- 'swarflaw50.ControllerRun', WHERE WHAT IT READS IS OF BULK AT MOST 1048576: true; the input reads as it did. -/
def controllerRunUptoRow : OpenClaim := { program := "ytfmjmabaabmgcaa", sum := "e2d453ce62fa9af8fca20b029b60dba9812743443a770f8e4b029131ad9ec2af", func := "swarf/swarflaw50.ControllerRun", spec := "controllerRun", inPlace := ["math.sqrt"], unfollowed := true, recurses := true, apart := false, narrowed := true }
def ControllerRunUptoSaid : Prop := controllerRunUptoRow.holds Try.pinned (OpenSpec.upto controllerRunSpec)

/-- 'swarflaw50.ControllerRestart', WHERE WHAT IT READS IS OF BULK AT MOST 1048576: true; the input reads as it did. -/
def controllerRestartUptoRow : OpenClaim := { program := "ytfmjmabaabmgcaa", sum := "e2d453ce62fa9af8fca20b029b60dba9812743443a770f8e4b029131ad9ec2af", func := "swarf/swarflaw50.ControllerRestart", spec := "controllerRestart", inPlace := ["math.sqrt"], unfollowed := true, recurses := true, apart := false, narrowed := true }
def ControllerRestartUptoSaid : Prop := controllerRestartUptoRow.holds Try.pinned (OpenSpec.upto controllerRestartSpec)

/-- 'swarflaw50.ControllerHolds', WHERE WHAT IT READS IS OF BULK AT MOST 1048576: true; the input reads as it did. -/
def controllerHoldsUptoRow : OpenClaim := { program := "ytfmjmabaabmgcaa", sum := "e2d453ce62fa9af8fca20b029b60dba9812743443a770f8e4b029131ad9ec2af", func := "swarf/swarflaw50.ControllerHolds", spec := "controllerHolds", inPlace := ["math.sqrt"], unfollowed := true, recurses := true, apart := false, narrowed := true }
def ControllerHoldsUptoSaid : Prop := controllerHoldsUptoRow.holds Try.pinned (OpenSpec.upto controllerHoldsSpec)

/-- 'swarflaw50.ControllerRests', WHERE WHAT IT READS IS OF BULK AT MOST 1048576: true; the input reads as it did. -/
def controllerRestsUptoRow : OpenClaim := { program := "ytfmjmabaabmgcaa", sum := "e2d453ce62fa9af8fca20b029b60dba9812743443a770f8e4b029131ad9ec2af", func := "swarf/swarflaw50.ControllerRests", spec := "controllerRests", inPlace := ["math.sqrt"], unfollowed := true, recurses := true, apart := false, narrowed := true }
def ControllerRestsUptoSaid : Prop := controllerRestsUptoRow.holds Try.pinned (OpenSpec.upto controllerRestsSpec)

/-- 'swarflaw50.ControllerEvents', WHERE WHAT IT READS IS OF BULK AT MOST 1048576: true; the input reads as it did. -/
def controllerEventsUptoRow : OpenClaim := { program := "ytfmjmabaabmgcaa", sum := "e2d453ce62fa9af8fca20b029b60dba9812743443a770f8e4b029131ad9ec2af", func := "swarf/swarflaw50.ControllerEvents", spec := "controllerEvents", inPlace := ["math.sqrt"], unfollowed := true, recurses := true, apart := false, narrowed := true }
def ControllerEventsUptoSaid : Prop := controllerEventsUptoRow.holds Try.pinned (OpenSpec.upto controllerEventsSpec)

/-- 'swarflaw50.ControllerBreak', WHERE WHAT IT READS IS OF BULK AT MOST 1048576: true; the input reads as it did. -/
def controllerBreakUptoRow : OpenClaim := { program := "ytfmjmabaabmgcaa", sum := "e2d453ce62fa9af8fca20b029b60dba9812743443a770f8e4b029131ad9ec2af", func := "swarf/swarflaw50.ControllerBreak", spec := "controllerBreak", inPlace := ["math.sqrt"], unfollowed := true, recurses := true, apart := false, narrowed := true }
def ControllerBreakUptoSaid : Prop := controllerBreakUptoRow.holds Try.pinned (OpenSpec.upto controllerBreakSpec)

end Rows
end Go.Proofs.Ytfmjmabaabmgcaa
