/-
  DERIVED. GIVEN WITH THE SEED: THE CARDS: each row of YtajkcdplmkaipaaGreatDoorRows.lean that lists a variable, with what it lists TIED to the program's text (the seventh form; the later family's looks); each row that meets fmt, with fmt's text TOLD by the authors' own Lean function (tested against real Go, not proved from fmt's source: count such statements apart). THE CARD IS WHAT COUNTS. Prove the row's statement (the work); the ties are given (YtajkcdplmkaipaaGreatDoorTie.lean); close each card by the builder's one call (the guide's Derived/Test/ToyasCard.lean, 'card_holds'). Laid BY PROGRAM, IN A SANDBOX (cutbox-door.mjs). By AI agents, Wed Nov 11 2026. No macro, syntax, notation, axiom, sorry.
-/
import Derived.Test.YtajkcdplmkaipaaGreatDoorRows
import GoSem.ClaimSeven
namespace Go.Proofs.YtajkcdplmkaipaaGreatDoor
namespace Rows

/-- THE TIED CARD OF 'ratoonlaw24.KernelNil'. -/
def kernelNilCard : Claim7 := { stood := { row := kernelNilRow, standIns := [], harness := (true, "af077e78bfaaaf166203ee8c09cb62972cc9e008eb85e2e9cc97089df3864406"), looks := false }, kinds := [], alts := [], laidByText := true, laidKinds := [.data], laidTests := true, laidLooks := .later }
def KernelNilCardSaid : Prop := Claim7.holds Tryz.pinned (.plain (OpenSpec.ofChange kernelNilSpec)) kernelNilCard

/-- THE SECOND FORM's CARD OF 'ratoonlaw24.KernelNil'. -/
def kernelNilUptoCard : Claim7 := { stood := { row := kernelNilUptoRow, standIns := [], harness := (true, "af077e78bfaaaf166203ee8c09cb62972cc9e008eb85e2e9cc97089df3864406"), looks := false }, kinds := [], alts := [], laidByText := true, laidKinds := [.data], laidTests := true, laidLooks := .later }
def KernelNilUptoCardSaid : Prop := Claim7.holds Tryz.pinned (.plain (OpenSpec.upto kernelNilSpec)) kernelNilUptoCard
end Rows
end Go.Proofs.YtajkcdplmkaipaaGreatDoor
