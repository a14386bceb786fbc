/-
  DERIVED. GIVEN WITH THE SEED: THE CARDS: each row of YtjibcnnbclcboaaDoorRows.lean that lists a variable, with what it lists TIED to the program's text (the seventh form; the later family's looks); each row that meets fmt, with fmt's text TOLD by the authors' own Lean function (tested against real Go, not proved from fmt's source: count such statements apart). THE CARD IS WHAT COUNTS. Prove the row's statement (the work); the ties are given (YtjibcnnbclcboaaDoorTie.lean); close each card by the builder's one call (the guide's Derived/Test/ToyasCard.lean, 'card_holds'). Laid BY PROGRAM, IN A SANDBOX (cutbox-door.mjs). By AI agents, Wed Nov 11 2026. No macro, syntax, notation, axiom, sorry.
-/
import Derived.Test.YtjibcnnbclcboaaDoorRows
import GoSem.ClaimSeven
namespace Go.Proofs.YtjibcnnbclcboaaDoor
namespace Rows

/-- THE TIED CARD OF 'swarflaw55.JobSummary'. -/
def jobSummaryCard : Claim7 := { stood := { row := jobSummaryRow, standIns := [], harness := (true, "c8c87a9a7d7a58409d8b8b38e26edd6cb236be2b3de96df1b91bee27cb16bf61"), looks := false }, kinds := [], alts := [], laidByText := true, laidKinds := [.data, .data, .data, .data, .pinned], laidTests := true, laidLooks := .later }
def JobSummaryCardSaid : Prop := Claim7.holds Tryd.pinned (.plain (OpenSpec.ofChange jobSummarySpec)) jobSummaryCard

/-- THE SECOND FORM's CARD OF 'swarflaw55.JobSummary'. -/
def jobSummaryUptoCard : Claim7 := { stood := { row := jobSummaryUptoRow, standIns := [], harness := (true, "c8c87a9a7d7a58409d8b8b38e26edd6cb236be2b3de96df1b91bee27cb16bf61"), looks := false }, kinds := [], alts := [], laidByText := true, laidKinds := [.data, .data, .data, .data, .pinned], laidTests := true, laidLooks := .later }
def JobSummaryUptoCardSaid : Prop := Claim7.holds Tryd.pinned (.plain (OpenSpec.upto jobSummarySpec)) jobSummaryUptoCard
end Rows
end Go.Proofs.YtjibcnnbclcboaaDoor
