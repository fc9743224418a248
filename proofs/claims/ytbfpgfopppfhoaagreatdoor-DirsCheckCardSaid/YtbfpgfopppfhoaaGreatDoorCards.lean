/-
  DERIVED. GIVEN WITH THE SEED: THE CARDS: each row of YtbfpgfopppfhoaaGreatDoorRows.lean that lists a variable, with what it lists TIED to the program's text (the seventh form; the later family's looks); each row that meets fmt, with fmt's text TOLD by the authors' own Lean function (tested against real Go, not proved from fmt's source: count such statements apart). THE CARD IS WHAT COUNTS. Prove the row's statement (the work); the ties are given (YtbfpgfopppfhoaaGreatDoorTie.lean); close each card by the builder's one call (the guide's Derived/Test/ToyasCard.lean, 'card_holds'). Laid BY PROGRAM, IN A SANDBOX (cutbox-door.mjs). By AI agents, Wed Nov 11 2026. No macro, syntax, notation, axiom, sorry.
-/
import Derived.Test.YtbfpgfopppfhoaaGreatDoorRows
import GoSem.ClaimSeven
namespace Go.Proofs.YtbfpgfopppfhoaaGreatDoor
namespace Rows

/-- THE TIED CARD OF 'ratoonlaw38.DirsNames'. -/
def dirsNamesCard : Claim7 := { stood := { row := dirsNamesRow, standIns := [], harness := (true, "2973c71a2a670c4d69cecd78a251561222006d7a41dbb49bfd395a09465aeb9c"), looks := false }, kinds := [], alts := [], laidByText := true, laidKinds := [.data, .pinned], laidTests := true, laidLooks := .later }
def DirsNamesCardSaid : Prop := Claim7.holds Tryz.pinned (.plain (OpenSpec.ofChange dirsNamesSpec)) dirsNamesCard

/-- THE TIED CARD OF 'ratoonlaw38.DirsMake'. -/
def dirsMakeCard : Claim7 := { stood := { row := dirsMakeRow, standIns := [], harness := (true, "2973c71a2a670c4d69cecd78a251561222006d7a41dbb49bfd395a09465aeb9c"), looks := false }, kinds := [], alts := [], laidByText := true, laidKinds := [.data, .pinned], laidTests := true, laidLooks := .later }
def DirsMakeCardSaid : Prop := Claim7.holds Tryz.pinned (.plain (OpenSpec.ofChange dirsMakeSpec)) dirsMakeCard

/-- THE TIED CARD OF 'ratoonlaw38.DirsUnlink'. -/
def dirsUnlinkCard : Claim7 := { stood := { row := dirsUnlinkRow, standIns := [], harness := (true, "2973c71a2a670c4d69cecd78a251561222006d7a41dbb49bfd395a09465aeb9c"), looks := false }, kinds := [], alts := [], laidByText := true, laidKinds := [.data, .pinned], laidTests := true, laidLooks := .later }
def DirsUnlinkCardSaid : Prop := Claim7.holds Tryz.pinned (.plain (OpenSpec.ofChange dirsUnlinkSpec)) dirsUnlinkCard

/-- THE TIED CARD OF 'ratoonlaw38.DirsCheck'. -/
def dirsCheckCard : Claim7 := { stood := { row := dirsCheckRow, standIns := [], harness := (true, "2973c71a2a670c4d69cecd78a251561222006d7a41dbb49bfd395a09465aeb9c"), looks := false }, kinds := [], alts := [], laidByText := true, laidKinds := [.data, .pinned], laidTests := true, laidLooks := .later }
def DirsCheckCardSaid : Prop := Claim7.holds Tryz.pinned (.plain (OpenSpec.ofChange dirsCheckSpec)) dirsCheckCard

/-- THE TIED CARD OF 'ratoonlaw38.DirsTree'. -/
def dirsTreeCard : Claim7 := { stood := { row := dirsTreeRow, standIns := [], harness := (true, "2973c71a2a670c4d69cecd78a251561222006d7a41dbb49bfd395a09465aeb9c"), looks := false }, kinds := [], alts := [], laidByText := true, laidKinds := [.data, .pinned], laidTests := true, laidLooks := .later }
def DirsTreeCardSaid : Prop := Claim7.holds Tryz.pinned (.plain (OpenSpec.ofChange dirsTreeSpec)) dirsTreeCard

/-- THE TIED CARD OF 'ratoonlaw38.DirsRemoves'. -/
def dirsRemovesCard : Claim7 := { stood := { row := dirsRemovesRow, standIns := [], harness := (true, "2973c71a2a670c4d69cecd78a251561222006d7a41dbb49bfd395a09465aeb9c"), looks := false }, kinds := [], alts := [], laidByText := true, laidKinds := [.data, .pinned], laidTests := true, laidLooks := .later }
def DirsRemovesCardSaid : Prop := Claim7.holds Tryz.pinned (.plain (OpenSpec.ofChange dirsRemovesSpec)) dirsRemovesCard

/-- THE TIED CARD OF 'ratoonlaw38.DirsBack'. -/
def dirsBackCard : Claim7 := { stood := { row := dirsBackRow, standIns := [], harness := (true, "2973c71a2a670c4d69cecd78a251561222006d7a41dbb49bfd395a09465aeb9c"), looks := false }, kinds := [], alts := [], laidByText := true, laidKinds := [.data, .pinned], laidTests := true, laidLooks := .later }
def DirsBackCardSaid : Prop := Claim7.holds Tryz.pinned (.plain (OpenSpec.ofChange dirsBackSpec)) dirsBackCard

/-- THE TIED CARD OF 'ratoonlaw38.DirsWalk'. -/
def dirsWalkCard : Claim7 := { stood := { row := dirsWalkRow, standIns := [], harness := (true, "2973c71a2a670c4d69cecd78a251561222006d7a41dbb49bfd395a09465aeb9c"), looks := false }, kinds := [], alts := [], laidByText := true, laidKinds := [.data, .pinned], laidTests := true, laidLooks := .later }
def DirsWalkCardSaid : Prop := Claim7.holds Tryz.pinned (.plain (OpenSpec.ofChange dirsWalkSpec)) dirsWalkCard

/-- THE TIED CARD OF 'ratoonlaw38.DirsList'. -/
def dirsListCard : Claim7 := { stood := { row := dirsListRow, standIns := [], harness := (true, "2973c71a2a670c4d69cecd78a251561222006d7a41dbb49bfd395a09465aeb9c"), looks := false }, kinds := [], alts := [], laidByText := true, laidKinds := [.data, .pinned], laidTests := true, laidLooks := .later }
def DirsListCardSaid : Prop := Claim7.holds Tryz.pinned (.plain (OpenSpec.ofChange dirsListSpec)) dirsListCard

/-- THE SECOND FORM's CARD OF 'ratoonlaw38.DirsNames'. -/
def dirsNamesUptoCard : Claim7 := { stood := { row := dirsNamesUptoRow, standIns := [], harness := (true, "2973c71a2a670c4d69cecd78a251561222006d7a41dbb49bfd395a09465aeb9c"), looks := false }, kinds := [], alts := [], laidByText := true, laidKinds := [.data, .pinned], laidTests := true, laidLooks := .later }
def DirsNamesUptoCardSaid : Prop := Claim7.holds Tryz.pinned (.plain (OpenSpec.upto dirsNamesSpec)) dirsNamesUptoCard

/-- THE SECOND FORM's CARD OF 'ratoonlaw38.DirsMake'. -/
def dirsMakeUptoCard : Claim7 := { stood := { row := dirsMakeUptoRow, standIns := [], harness := (true, "2973c71a2a670c4d69cecd78a251561222006d7a41dbb49bfd395a09465aeb9c"), looks := false }, kinds := [], alts := [], laidByText := true, laidKinds := [.data, .pinned], laidTests := true, laidLooks := .later }
def DirsMakeUptoCardSaid : Prop := Claim7.holds Tryz.pinned (.plain (OpenSpec.upto dirsMakeSpec)) dirsMakeUptoCard

/-- THE SECOND FORM's CARD OF 'ratoonlaw38.DirsUnlink'. -/
def dirsUnlinkUptoCard : Claim7 := { stood := { row := dirsUnlinkUptoRow, standIns := [], harness := (true, "2973c71a2a670c4d69cecd78a251561222006d7a41dbb49bfd395a09465aeb9c"), looks := false }, kinds := [], alts := [], laidByText := true, laidKinds := [.data, .pinned], laidTests := true, laidLooks := .later }
def DirsUnlinkUptoCardSaid : Prop := Claim7.holds Tryz.pinned (.plain (OpenSpec.upto dirsUnlinkSpec)) dirsUnlinkUptoCard

/-- THE SECOND FORM's CARD OF 'ratoonlaw38.DirsCheck'. -/
def dirsCheckUptoCard : Claim7 := { stood := { row := dirsCheckUptoRow, standIns := [], harness := (true, "2973c71a2a670c4d69cecd78a251561222006d7a41dbb49bfd395a09465aeb9c"), looks := false }, kinds := [], alts := [], laidByText := true, laidKinds := [.data, .pinned], laidTests := true, laidLooks := .later }
def DirsCheckUptoCardSaid : Prop := Claim7.holds Tryz.pinned (.plain (OpenSpec.upto dirsCheckSpec)) dirsCheckUptoCard

/-- THE SECOND FORM's CARD OF 'ratoonlaw38.DirsTree'. -/
def dirsTreeUptoCard : Claim7 := { stood := { row := dirsTreeUptoRow, standIns := [], harness := (true, "2973c71a2a670c4d69cecd78a251561222006d7a41dbb49bfd395a09465aeb9c"), looks := false }, kinds := [], alts := [], laidByText := true, laidKinds := [.data, .pinned], laidTests := true, laidLooks := .later }
def DirsTreeUptoCardSaid : Prop := Claim7.holds Tryz.pinned (.plain (OpenSpec.upto dirsTreeSpec)) dirsTreeUptoCard

/-- THE SECOND FORM's CARD OF 'ratoonlaw38.DirsRemoves'. -/
def dirsRemovesUptoCard : Claim7 := { stood := { row := dirsRemovesUptoRow, standIns := [], harness := (true, "2973c71a2a670c4d69cecd78a251561222006d7a41dbb49bfd395a09465aeb9c"), looks := false }, kinds := [], alts := [], laidByText := true, laidKinds := [.data, .pinned], laidTests := true, laidLooks := .later }
def DirsRemovesUptoCardSaid : Prop := Claim7.holds Tryz.pinned (.plain (OpenSpec.upto dirsRemovesSpec)) dirsRemovesUptoCard

/-- THE SECOND FORM's CARD OF 'ratoonlaw38.DirsBack'. -/
def dirsBackUptoCard : Claim7 := { stood := { row := dirsBackUptoRow, standIns := [], harness := (true, "2973c71a2a670c4d69cecd78a251561222006d7a41dbb49bfd395a09465aeb9c"), looks := false }, kinds := [], alts := [], laidByText := true, laidKinds := [.data, .pinned], laidTests := true, laidLooks := .later }
def DirsBackUptoCardSaid : Prop := Claim7.holds Tryz.pinned (.plain (OpenSpec.upto dirsBackSpec)) dirsBackUptoCard

/-- THE SECOND FORM's CARD OF 'ratoonlaw38.DirsWalk'. -/
def dirsWalkUptoCard : Claim7 := { stood := { row := dirsWalkUptoRow, standIns := [], harness := (true, "2973c71a2a670c4d69cecd78a251561222006d7a41dbb49bfd395a09465aeb9c"), looks := false }, kinds := [], alts := [], laidByText := true, laidKinds := [.data, .pinned], laidTests := true, laidLooks := .later }
def DirsWalkUptoCardSaid : Prop := Claim7.holds Tryz.pinned (.plain (OpenSpec.upto dirsWalkSpec)) dirsWalkUptoCard

/-- THE SECOND FORM's CARD OF 'ratoonlaw38.DirsList'. -/
def dirsListUptoCard : Claim7 := { stood := { row := dirsListUptoRow, standIns := [], harness := (true, "2973c71a2a670c4d69cecd78a251561222006d7a41dbb49bfd395a09465aeb9c"), looks := false }, kinds := [], alts := [], laidByText := true, laidKinds := [.data, .pinned], laidTests := true, laidLooks := .later }
def DirsListUptoCardSaid : Prop := Claim7.holds Tryz.pinned (.plain (OpenSpec.upto dirsListSpec)) dirsListUptoCard
end Rows
end Go.Proofs.YtbfpgfopppfhoaaGreatDoor
