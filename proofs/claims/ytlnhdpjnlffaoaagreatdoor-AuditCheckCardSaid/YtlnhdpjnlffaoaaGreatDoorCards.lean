/-
  DERIVED. GIVEN WITH THE SEED: THE CARDS: each row of YtlnhdpjnlffaoaaGreatDoorRows.lean that lists a variable, with what it lists TIED to the program's text (the seventh form; the later family's looks); each row that meets fmt, with fmt's text TOLD by the authors' own Lean function (tested against real Go, not proved from fmt's source: count such statements apart). THE CARD IS WHAT COUNTS. Prove the row's statement (the work); the ties are given (YtlnhdpjnlffaoaaGreatDoorTie.lean); close each card by the builder's one call (the guide's Derived/Test/ToyasCard.lean, 'card_holds'). Laid BY PROGRAM, IN A SANDBOX (cutbox-door.mjs). By AI agents, Wed Nov 11 2026. No macro, syntax, notation, axiom, sorry.
-/
import Derived.Test.YtlnhdpjnlffaoaaGreatDoorRows
import GoSem.ClaimSeven
namespace Go.Proofs.YtlnhdpjnlffaoaaGreatDoor
namespace Rows

/-- THE TIED CARD OF 'ratoonlaw57.AuditCheck'. -/
def auditCheckCard : Claim7 := { stood := { row := auditCheckRow, standIns := [], harness := (true, "5056554e030bbb82d8e859271c405ab54893cedd27147be461b67b869532d5ae"), looks := false }, kinds := [], alts := [], laidByText := true, laidKinds := [.data], laidTests := true, laidLooks := .later }
def AuditCheckCardSaid : Prop := Claim7.holds Tryz.pinned (.plain (OpenSpec.ofChange auditCheckSpec)) auditCheckCard

/-- THE TIED CARD OF 'ratoonlaw57.AuditDamage'. -/
def auditDamageCard : Claim7 := { stood := { row := auditDamageRow, standIns := [], harness := (true, "5056554e030bbb82d8e859271c405ab54893cedd27147be461b67b869532d5ae"), looks := false }, kinds := [], alts := [], laidByText := true, laidKinds := [.data], laidTests := true, laidLooks := .later }
def AuditDamageCardSaid : Prop := Claim7.holds Tryz.pinned (.plain (OpenSpec.ofChange auditDamageSpec)) auditDamageCard

/-- THE TIED CARD OF 'ratoonlaw57.AuditMapped'. -/
def auditMappedCard : Claim7 := { stood := { row := auditMappedRow, standIns := [], harness := (true, "5056554e030bbb82d8e859271c405ab54893cedd27147be461b67b869532d5ae"), looks := false }, kinds := [], alts := [], laidByText := true, laidKinds := [.data], laidTests := true, laidLooks := .later }
def AuditMappedCardSaid : Prop := Claim7.holds Tryz.pinned (.plain (OpenSpec.ofChange auditMappedSpec)) auditMappedCard

/-- THE TIED CARD OF 'ratoonlaw57.AuditRecord'. -/
def auditRecordCard : Claim7 := { stood := { row := auditRecordRow, standIns := [], harness := (true, "5056554e030bbb82d8e859271c405ab54893cedd27147be461b67b869532d5ae"), looks := false }, kinds := [], alts := [], laidByText := true, laidKinds := [.data], laidTests := true, laidLooks := .later }
def AuditRecordCardSaid : Prop := Claim7.holds Tryz.pinned (.plain (OpenSpec.ofChange auditRecordSpec)) auditRecordCard

/-- THE SECOND FORM's CARD OF 'ratoonlaw57.AuditCheck'. -/
def auditCheckUptoCard : Claim7 := { stood := { row := auditCheckUptoRow, standIns := [], harness := (true, "5056554e030bbb82d8e859271c405ab54893cedd27147be461b67b869532d5ae"), looks := false }, kinds := [], alts := [], laidByText := true, laidKinds := [.data], laidTests := true, laidLooks := .later }
def AuditCheckUptoCardSaid : Prop := Claim7.holds Tryz.pinned (.plain (OpenSpec.upto auditCheckSpec)) auditCheckUptoCard

/-- THE SECOND FORM's CARD OF 'ratoonlaw57.AuditDamage'. -/
def auditDamageUptoCard : Claim7 := { stood := { row := auditDamageUptoRow, standIns := [], harness := (true, "5056554e030bbb82d8e859271c405ab54893cedd27147be461b67b869532d5ae"), looks := false }, kinds := [], alts := [], laidByText := true, laidKinds := [.data], laidTests := true, laidLooks := .later }
def AuditDamageUptoCardSaid : Prop := Claim7.holds Tryz.pinned (.plain (OpenSpec.upto auditDamageSpec)) auditDamageUptoCard

/-- THE SECOND FORM's CARD OF 'ratoonlaw57.AuditMapped'. -/
def auditMappedUptoCard : Claim7 := { stood := { row := auditMappedUptoRow, standIns := [], harness := (true, "5056554e030bbb82d8e859271c405ab54893cedd27147be461b67b869532d5ae"), looks := false }, kinds := [], alts := [], laidByText := true, laidKinds := [.data], laidTests := true, laidLooks := .later }
def AuditMappedUptoCardSaid : Prop := Claim7.holds Tryz.pinned (.plain (OpenSpec.upto auditMappedSpec)) auditMappedUptoCard

/-- THE SECOND FORM's CARD OF 'ratoonlaw57.AuditRecord'. -/
def auditRecordUptoCard : Claim7 := { stood := { row := auditRecordUptoRow, standIns := [], harness := (true, "5056554e030bbb82d8e859271c405ab54893cedd27147be461b67b869532d5ae"), looks := false }, kinds := [], alts := [], laidByText := true, laidKinds := [.data], laidTests := true, laidLooks := .later }
def AuditRecordUptoCardSaid : Prop := Claim7.holds Tryz.pinned (.plain (OpenSpec.upto auditRecordSpec)) auditRecordUptoCard
end Rows
end Go.Proofs.YtlnhdpjnlffaoaaGreatDoor
