/-
  DERIVED. GIVEN WITH THE SEED: THE CARDS: each row of YtjibcnnbclcboaaGreatDoorRows.lean that lists a variable, with what it lists TIED to the program's text (the seventh form; the later family's looks); each row that meets fmt, with fmt's text TOLD by the authors' own Lean function (tested against real Go, not proved from fmt's source: count such statements apart). THE CARD IS WHAT COUNTS. Prove the row's statement (the work); the ties are given (YtjibcnnbclcboaaGreatDoorTie.lean); close each card by the builder's one call (the guide's Derived/Test/ToyasCard.lean, 'card_holds'). Laid BY PROGRAM, IN A SANDBOX (cutbox-door.mjs). By AI agents, Wed Nov 11 2026. No macro, syntax, notation, axiom, sorry.
-/
import Derived.Test.YtjibcnnbclcboaaGreatDoorRows
import GoSem.ClaimSeven
namespace Go.Proofs.YtjibcnnbclcboaaGreatDoor
namespace Rows

/-- THE TIED CARD OF 'swarflaw55.JobDisturbed'. -/
def jobDisturbedCard : Claim7 := { stood := { row := jobDisturbedRow, standIns := [], harness := (true, "e3c5475b75e81f1efc3b0d6373f8e1249e176b9e8180645b87245c55ccc93416"), looks := false }, kinds := [], alts := [], laidByText := true, laidKinds := [.data, .data, .data, .data, .pinned], laidTests := true, laidLooks := .later }
def JobDisturbedCardSaid : Prop := Claim7.holds Tryz.pinned (.plain (OpenSpec.ofChange jobDisturbedSpec)) jobDisturbedCard

/-- THE TIED CARD OF 'swarflaw55.JobHolds'. -/
def jobHoldsCard : Claim7 := { stood := { row := jobHoldsRow, standIns := [], harness := (true, "e3c5475b75e81f1efc3b0d6373f8e1249e176b9e8180645b87245c55ccc93416"), looks := false }, kinds := [], alts := [], laidByText := true, laidKinds := [.data, .data, .data, .data, .pinned], laidTests := true, laidLooks := .later }
def JobHoldsCardSaid : Prop := Claim7.holds Tryz.pinned (.plain (OpenSpec.ofChange jobHoldsSpec)) jobHoldsCard

/-- THE TIED CARD OF 'swarflaw55.JobConnected'. -/
def jobConnectedCard : Claim7 := { stood := { row := jobConnectedRow, standIns := [], harness := (true, "e3c5475b75e81f1efc3b0d6373f8e1249e176b9e8180645b87245c55ccc93416"), looks := false }, kinds := [], alts := [], laidByText := true, laidKinds := [.data, .data, .data, .data, .pinned], laidTests := true, laidLooks := .later }
def JobConnectedCardSaid : Prop := Claim7.holds Tryz.pinned (.plain (OpenSpec.ofChange jobConnectedSpec)) jobConnectedCard

/-- THE SECOND FORM's CARD OF 'swarflaw55.JobDisturbed'. -/
def jobDisturbedUptoCard : Claim7 := { stood := { row := jobDisturbedUptoRow, standIns := [], harness := (true, "e3c5475b75e81f1efc3b0d6373f8e1249e176b9e8180645b87245c55ccc93416"), looks := false }, kinds := [], alts := [], laidByText := true, laidKinds := [.data, .data, .data, .data, .pinned], laidTests := true, laidLooks := .later }
def JobDisturbedUptoCardSaid : Prop := Claim7.holds Tryz.pinned (.plain (OpenSpec.upto jobDisturbedSpec)) jobDisturbedUptoCard

/-- THE SECOND FORM's CARD OF 'swarflaw55.JobHolds'. -/
def jobHoldsUptoCard : Claim7 := { stood := { row := jobHoldsUptoRow, standIns := [], harness := (true, "e3c5475b75e81f1efc3b0d6373f8e1249e176b9e8180645b87245c55ccc93416"), looks := false }, kinds := [], alts := [], laidByText := true, laidKinds := [.data, .data, .data, .data, .pinned], laidTests := true, laidLooks := .later }
def JobHoldsUptoCardSaid : Prop := Claim7.holds Tryz.pinned (.plain (OpenSpec.upto jobHoldsSpec)) jobHoldsUptoCard

/-- THE SECOND FORM's CARD OF 'swarflaw55.JobConnected'. -/
def jobConnectedUptoCard : Claim7 := { stood := { row := jobConnectedUptoRow, standIns := [], harness := (true, "e3c5475b75e81f1efc3b0d6373f8e1249e176b9e8180645b87245c55ccc93416"), looks := false }, kinds := [], alts := [], laidByText := true, laidKinds := [.data, .data, .data, .data, .pinned], laidTests := true, laidLooks := .later }
def JobConnectedUptoCardSaid : Prop := Claim7.holds Tryz.pinned (.plain (OpenSpec.upto jobConnectedSpec)) jobConnectedUptoCard
end Rows
end Go.Proofs.YtjibcnnbclcboaaGreatDoor
