/-
  DERIVED. GIVEN WITH THE SEED: THE CARDS: each row of YtakammghcodmgaaGreatDoorRows.lean that lists a variable, with what it lists TIED to the program's text (the seventh form; the later family's looks); each row that meets fmt, with fmt's text TOLD by the authors' own Lean function (tested against real Go, not proved from fmt's source: count such statements apart). THE CARD IS WHAT COUNTS. Prove the row's statement (the work); the ties are given (YtakammghcodmgaaGreatDoorTie.lean); close each card by the builder's one call (the guide's Derived/Test/ToyasCard.lean, 'card_holds'). Laid BY PROGRAM, IN A SANDBOX (cutbox-door.mjs). By AI agents, Wed Nov 11 2026. No macro, syntax, notation, axiom, sorry.
-/
import Derived.Test.YtakammghcodmgaaGreatDoorRows
import GoSem.ClaimSeven
namespace Go.Proofs.YtakammghcodmgaaGreatDoor
namespace Rows

/-- THE TIED CARD OF 'ratoonlaw24.KernelTicks'. -/
def kernelTicksCard : Claim7 := { stood := { row := kernelTicksRow, standIns := [], harness := (true, "85d81f4b610c6c2fbdcb9b23c5dedff52cea418f6124780ecd902d27115b8803"), looks := false }, kinds := [], alts := [], laidByText := true, laidKinds := [.data], laidTests := true, laidLooks := .later }
def KernelTicksCardSaid : Prop := Claim7.holds Tryz.pinned (.plain (OpenSpec.ofChange kernelTicksSpec)) kernelTicksCard

/-- THE SECOND FORM's CARD OF 'ratoonlaw24.KernelTicks'. -/
def kernelTicksUptoCard : Claim7 := { stood := { row := kernelTicksUptoRow, standIns := [], harness := (true, "85d81f4b610c6c2fbdcb9b23c5dedff52cea418f6124780ecd902d27115b8803"), looks := false }, kinds := [], alts := [], laidByText := true, laidKinds := [.data], laidTests := true, laidLooks := .later }
def KernelTicksUptoCardSaid : Prop := Claim7.holds Tryz.pinned (.plain (OpenSpec.upto kernelTicksSpec)) kernelTicksUptoCard
end Rows
end Go.Proofs.YtakammghcodmgaaGreatDoor
