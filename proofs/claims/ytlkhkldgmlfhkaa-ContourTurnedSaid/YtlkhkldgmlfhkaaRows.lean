/-
  No cell of these rows narrows 'for every input' (looked for: loops, veiled, ifaces, maps, wideKeys, modest, calm, conditions, laid).
  DERIVED. THE GIVEN ROWS OF THIS SEAT. 2 by the template 'for every input the law returns true; each argument reads behind the call as it read before'; 0 by the template 'total and deterministic' (their statements: YtlkhkldgmlfhkaaTotals.lean).
  GIVEN WITH THE SEED: the statements are not yours to turn. If you find one false, say at which input.
  Laid BY PROGRAM, IN A SANDBOX (cutbox-rows.mjs): the forced cells as the released guide's own fill.sh prints them over the translation c9fba784d863d70d… (all of the seat's roots in one cut). By AI agents, Wed Nov 11 2026. No macro, syntax, notation, axiom, sorry.
-/
import Derived.Test.YtlkhkldgmlfhkaaChecked
import GoSem.Claim
import GoSem.ClaimJoined
import GoSem.ClaimMapViews
import Derived.JoinedTies
import Derived.KernelRfl
namespace Go.Proofs.Ytlkhkldgmlfhkaa
/- THE CELL 'sum', in the pinned program and in every row, IS THE sha256 OF THE DUMP (.gsa) THAT YtlkhkldgmlfhkaaProg.lean LOADS. Nothing in Lean hashes anything: it is a label: what it is worth is what the hold of that sum in a sandbox is worth. -/
noncomputable def Try.pinned : Pinned := { name := "ytlkhkldgmlfhkaa", sum := "c9fba784d863d70d693da11ed92b9057cd383d7466b3d6650ad4a8e390ccf6b0", checked := Try.checked }
namespace Rows
def none {H : Type} : Left H := { results := [], args := [] }

/-- 'swarflaw31.ContourClosed': WHATEVER THE INPUT: true; the input reads as it did. -/
def contourClosedSpec : ChangeSpec := { name := "contourClosed", fn := fun _ => fun
  | [d1, d2, d3] => { results := [.lit (.bool true)], args := [d1, d2, d3] }
  | _ => none }
def contourClosedRow : OpenClaim := { program := "ytlkhkldgmlfhkaa", sum := "c9fba784d863d70d693da11ed92b9057cd383d7466b3d6650ad4a8e390ccf6b0", func := "swarf/swarflaw31.ContourClosed", spec := "contourClosed", apart := false }
def ContourClosedSaid : Prop := contourClosedRow.holds Try.pinned (OpenSpec.ofChange contourClosedSpec)

/-- ITS FALSE NEIGHBOUR: 'it returns false'. Refute it at one input. -/
def contourClosedWrong : ChangeSpec := { name := "contourClosed", fn := fun _ => fun
  | [d1, d2, d3] => { results := [.lit (.bool false)], args := [d1, d2, d3] }
  | _ => none }
def ContourClosedWrongFalsely : Prop := contourClosedRow.holds Try.pinned (OpenSpec.ofChange contourClosedWrong)

/-- 'swarflaw31.ContourTurned': WHATEVER THE INPUT: true; the input reads as it did. -/
def contourTurnedSpec : ChangeSpec := { name := "contourTurned", fn := fun _ => fun
  | [d1, d2, d3] => { results := [.lit (.bool true)], args := [d1, d2, d3] }
  | _ => none }
def contourTurnedRow : OpenClaim := { program := "ytlkhkldgmlfhkaa", sum := "c9fba784d863d70d693da11ed92b9057cd383d7466b3d6650ad4a8e390ccf6b0", func := "swarf/swarflaw31.ContourTurned", spec := "contourTurned", apart := false }
def ContourTurnedSaid : Prop := contourTurnedRow.holds Try.pinned (OpenSpec.ofChange contourTurnedSpec)

/-- ITS FALSE NEIGHBOUR: 'it returns false'. Refute it at one input. -/
def contourTurnedWrong : ChangeSpec := { name := "contourTurned", fn := fun _ => fun
  | [d1, d2, d3] => { results := [.lit (.bool false)], args := [d1, d2, d3] }
  | _ => none }
def ContourTurnedWrongFalsely : Prop := contourTurnedRow.holds Try.pinned (OpenSpec.ofChange contourTurnedWrong)

/- THE SECOND FORM. 'bulk': how many values and letters a reading holds, each counted each time it is reached (what is shared counts as often as it is met; a slice's spare places count too). A statement '..UptoSaid' is the law's where the arguments, and the package variables that the reading takes, are together of bulk at most 1048576: NARROWER than '..Said'. Prove '..Said' where nothing that the law and all that it calls make is longer than what came in: it says more and counts as full. Else prove '..UptoSaid'. A law counts once. -/
mutual
def uptoBulk {H : Type} : DataW H → Nat
  | .lit (.string bytes) => bytes.length + 1
  | .lit _ => 1
  | .nil => 1
  | .ptr d => uptoBulk d + 1
  | .slice elems spare => uptoBulkAll elems + uptoBulkAll spare + 1
  | .agg parts => uptoBulkAll parts + 1
  | .iface _ d => uptoBulk d + 1
  | .map entries => uptoBulkEntries entries + 1
  | .held _ => 1
def uptoBulkAll {H : Type} : List (DataW H) → Nat
  | [] => 0
  | d :: r => uptoBulk d + uptoBulkAll r
def uptoBulkEntries {H : Type} : List (Lit × DataW H) → Nat
  | [] => 0
  | x :: r => uptoBulkEntry x + uptoBulkEntries r
def uptoBulkEntry {H : Type} : Lit × DataW H → Nat
  | (.string bytes, d) => bytes.length + uptoBulk d + 1
  | (_, d) => uptoBulk d + 1
 end
def uptoSmall : (H : Type) → List (DataW H) → Bool := fun _ ds => decide (uptoBulkAll ds ≤ 1048576)
def OpenSpec.upto (s : _root_.Go.ChangeSpec) : _root_.Go.OpenSpec := { _root_.Go.OpenSpec.ofChange s with cond := some uptoSmall }

/-- 'swarflaw31.ContourClosed', WHERE WHAT IT READS IS OF BULK AT MOST 1048576: true; the input reads as it did. -/
def contourClosedUptoRow : OpenClaim := { program := "ytlkhkldgmlfhkaa", sum := "c9fba784d863d70d693da11ed92b9057cd383d7466b3d6650ad4a8e390ccf6b0", func := "swarf/swarflaw31.ContourClosed", spec := "contourClosed", apart := false, narrowed := true }
def ContourClosedUptoSaid : Prop := contourClosedUptoRow.holds Try.pinned (OpenSpec.upto contourClosedSpec)

/-- 'swarflaw31.ContourTurned', WHERE WHAT IT READS IS OF BULK AT MOST 1048576: true; the input reads as it did. -/
def contourTurnedUptoRow : OpenClaim := { program := "ytlkhkldgmlfhkaa", sum := "c9fba784d863d70d693da11ed92b9057cd383d7466b3d6650ad4a8e390ccf6b0", func := "swarf/swarflaw31.ContourTurned", spec := "contourTurned", apart := false, narrowed := true }
def ContourTurnedUptoSaid : Prop := contourTurnedUptoRow.holds Try.pinned (OpenSpec.upto contourTurnedSpec)

end Rows
end Go.Proofs.Ytlkhkldgmlfhkaa
