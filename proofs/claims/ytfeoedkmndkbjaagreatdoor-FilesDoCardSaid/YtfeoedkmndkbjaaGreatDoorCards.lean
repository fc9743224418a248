/-
  DERIVED. GIVEN WITH THE SEED: THE CARDS: each row of YtfeoedkmndkbjaaGreatDoorRows.lean that lists a variable, with what it lists TIED to the program's text (the seventh form; the later family's looks); each row that meets fmt, with fmt's text TOLD by the authors' own Lean function (tested against real Go, not proved from fmt's source: count such statements apart). THE CARD IS WHAT COUNTS. Prove the row's statement (the work); the ties are given (YtfeoedkmndkbjaaGreatDoorTie.lean); close each card by the builder's one call (the guide's Derived/Test/ToyasCard.lean, 'card_holds'). Laid BY PROGRAM, IN A SANDBOX (cutbox-door.mjs). By AI agents, Wed Nov 11 2026. No macro, syntax, notation, axiom, sorry.
-/
import Derived.Test.YtfeoedkmndkbjaaGreatDoorRows
import GoSem.ClaimSeven
namespace Go.Proofs.YtfeoedkmndkbjaaGreatDoor
namespace Rows

/-- THE TIED CARD OF 'ratoonlaw39.FilesDo'. -/
def filesDoCard : Claim7 := { stood := { row := filesDoRow, standIns := [], harness := (true, "23db5021047b85fc66c6139d095f3d070c0d2af1c8286730d795e50b89704ffb"), looks := false }, kinds := [], alts := [], laidByText := true, laidKinds := [.data, .pinned], laidTests := true, laidLooks := .later }
def FilesDoCardSaid : Prop := Claim7.holds Tryz.pinned (.plain (OpenSpec.ofChange filesDoSpec)) filesDoCard

/-- THE TIED CARD OF 'ratoonlaw39.FilesMake'. -/
def filesMakeCard : Claim7 := { stood := { row := filesMakeRow, standIns := [], harness := (true, "23db5021047b85fc66c6139d095f3d070c0d2af1c8286730d795e50b89704ffb"), looks := false }, kinds := [], alts := [], laidByText := true, laidKinds := [.data, .pinned], laidTests := true, laidLooks := .later }
def FilesMakeCardSaid : Prop := Claim7.holds Tryz.pinned (.plain (OpenSpec.ofChange filesMakeSpec)) filesMakeCard

/-- THE TIED CARD OF 'ratoonlaw39.FilesWrites'. -/
def filesWritesCard : Claim7 := { stood := { row := filesWritesRow, standIns := [], harness := (true, "23db5021047b85fc66c6139d095f3d070c0d2af1c8286730d795e50b89704ffb"), looks := false }, kinds := [], alts := [], laidByText := true, laidKinds := [.data, .pinned], laidTests := true, laidLooks := .later }
def FilesWritesCardSaid : Prop := Claim7.holds Tryz.pinned (.plain (OpenSpec.ofChange filesWritesSpec)) filesWritesCard

/-- THE SECOND FORM's CARD OF 'ratoonlaw39.FilesDo'. -/
def filesDoUptoCard : Claim7 := { stood := { row := filesDoUptoRow, standIns := [], harness := (true, "23db5021047b85fc66c6139d095f3d070c0d2af1c8286730d795e50b89704ffb"), looks := false }, kinds := [], alts := [], laidByText := true, laidKinds := [.data, .pinned], laidTests := true, laidLooks := .later }
def FilesDoUptoCardSaid : Prop := Claim7.holds Tryz.pinned (.plain (OpenSpec.upto filesDoSpec)) filesDoUptoCard

/-- THE SECOND FORM's CARD OF 'ratoonlaw39.FilesMake'. -/
def filesMakeUptoCard : Claim7 := { stood := { row := filesMakeUptoRow, standIns := [], harness := (true, "23db5021047b85fc66c6139d095f3d070c0d2af1c8286730d795e50b89704ffb"), looks := false }, kinds := [], alts := [], laidByText := true, laidKinds := [.data, .pinned], laidTests := true, laidLooks := .later }
def FilesMakeUptoCardSaid : Prop := Claim7.holds Tryz.pinned (.plain (OpenSpec.upto filesMakeSpec)) filesMakeUptoCard

/-- THE SECOND FORM's CARD OF 'ratoonlaw39.FilesWrites'. -/
def filesWritesUptoCard : Claim7 := { stood := { row := filesWritesUptoRow, standIns := [], harness := (true, "23db5021047b85fc66c6139d095f3d070c0d2af1c8286730d795e50b89704ffb"), looks := false }, kinds := [], alts := [], laidByText := true, laidKinds := [.data, .pinned], laidTests := true, laidLooks := .later }
def FilesWritesUptoCardSaid : Prop := Claim7.holds Tryz.pinned (.plain (OpenSpec.upto filesWritesSpec)) filesWritesUptoCard
end Rows
end Go.Proofs.YtfeoedkmndkbjaaGreatDoor
