/-
  NARROWER THAN 'FOR EVERY INPUT', by the rows' own cells (each row's printed sentence says how): DirsNames: laid · DirsMake: laid · DirsUnlink: laid · DirsCheck: laid · DirsTree: laid · DirsRemoves: laid · DirsBack: laid · DirsWalk: laid · DirsList: laid.
  DERIVED. THE GIVEN ROWS OF THIS SEAT. 9 by the template 'for every input the law returns true; each argument reads behind the call as it read before'; 0 by the template 'total and deterministic' (their statements: YtbfpgfopppfhoaaGreatDoorTotals.lean).
  GIVEN WITH THE SEED: the statements are not yours to turn. If you find one false, say at which input.
  Laid BY PROGRAM, IN A SANDBOX (cutbox-rows.mjs): the forced cells as the released guide's own fill.sh prints them over the translation d75a58af40e35abc… (all of the seat's roots in one cut). By AI agents, Wed Nov 11 2026. No macro, syntax, notation, axiom, sorry.
-/
import Derived.Test.YtbfpgfopppfhoaaGreatDoorChecked
import GoSem.PinnedTables
import GoSem.Claim
import GoSem.ClaimJoined
import GoSem.ClaimMapViews
import Derived.JoinedTies
import Derived.KernelRfl
namespace Go.Proofs.YtbfpgfopppfhoaaGreatDoor
/- THE CELL 'sum', in the pinned program and in every row, IS THE sha256 OF THE DUMP (.gsa) THAT YtbfpgfopppfhoaaGreatDoorProg.lean LOADS. Nothing in Lean hashes anything: it is a label: what it is worth is what the hold of that sum in a sandbox is worth. -/
noncomputable def Tryz.pinned : Pinned := { name := "ytbfpgfopppfhoaagreatdoor", sum := "d75a58af40e35abc31fe163f293d678ca99669ed342b22c456e9c96a4ea58f60", checked := Tryz.checked }
namespace Rows
def none {H : Type} : Left H := { results := [], args := [] }

/- WHAT THE LISTED PACKAGE-LEVEL VARIABLES READ AS WHEN THE CALL BEGINS. Each datum BY PROGRAM (the guide's laid-datum.mjs) off the statement by which the dump's own 'gosem.cut.vars' lays the variable. In a bare row this is a premise. The card (YtbfpgfopppfhoaaGreatDoorCards.lean) ties it to the program's text. -/
def laid_unicode_utf8_acceptRanges {H : Type} : DataW H := .agg [.agg [.lit (.int .u8 128), .lit (.int .u8 191)], .agg [.lit (.int .u8 160), .lit (.int .u8 191)], .agg [.lit (.int .u8 128), .lit (.int .u8 159)], .agg [.lit (.int .u8 144), .lit (.int .u8 191)], .agg [.lit (.int .u8 128), .lit (.int .u8 143)], .agg [.lit (.int .u8 0), .lit (.int .u8 0)], .agg [.lit (.int .u8 0), .lit (.int .u8 0)], .agg [.lit (.int .u8 0), .lit (.int .u8 0)], .agg [.lit (.int .u8 0), .lit (.int .u8 0)], .agg [.lit (.int .u8 0), .lit (.int .u8 0)], .agg [.lit (.int .u8 0), .lit (.int .u8 0)], .agg [.lit (.int .u8 0), .lit (.int .u8 0)], .agg [.lit (.int .u8 0), .lit (.int .u8 0)], .agg [.lit (.int .u8 0), .lit (.int .u8 0)], .agg [.lit (.int .u8 0), .lit (.int .u8 0)], .agg [.lit (.int .u8 0), .lit (.int .u8 0)]]
/-- One of Go's own tables, pinned by name: the form's constant. -/
def laid_unicode_utf8_first : DataW Unit := Go.Pinned.utf8First

/-- 'ratoonlaw38.DirsNames': WHATEVER THE INPUT: true; the input reads as it did. -/
def dirsNamesSpec : ChangeSpec := { name := "dirsNames", fn := fun _ => fun
  | [d] => { results := [.lit (.bool true)], args := [d] }
  | _ => none }
def dirsNamesRow : OpenClaim := { program := "ytbfpgfopppfhoaagreatdoor", sum := "d75a58af40e35abc31fe163f293d678ca99669ed342b22c456e9c96a4ea58f60", func := "ratoon/ratoonlaw38.DirsNames", spec := "dirsNames", inPlace := ["internal/bytealg.CountString", "internal/bytealg.IndexByteString", "internal/bytealg.IndexString"], unfollowed := true, recurses := true, named := ["unicode/utf8.first", "unicode/utf8.acceptRanges", "internal/bytealg.MaxLen"], apart := false, laid := [("unicode/utf8.acceptRanges", laid_unicode_utf8_acceptRanges), ("unicode/utf8.first", laid_unicode_utf8_first)] }
def DirsNamesSaid : Prop := dirsNamesRow.holds Tryz.pinned (OpenSpec.ofChange dirsNamesSpec)

/-- ITS FALSE NEIGHBOUR: 'it returns false'. Refute it at one input. -/
def dirsNamesWrong : ChangeSpec := { name := "dirsNames", fn := fun _ => fun
  | [d] => { results := [.lit (.bool false)], args := [d] }
  | _ => none }
def DirsNamesWrongFalsely : Prop := dirsNamesRow.holds Tryz.pinned (OpenSpec.ofChange dirsNamesWrong)

/-- 'ratoonlaw38.DirsMake': WHATEVER THE INPUT: true; the input reads as it did. -/
def dirsMakeSpec : ChangeSpec := { name := "dirsMake", fn := fun _ => fun
  | [d1, d2, d3] => { results := [.lit (.bool true)], args := [d1, d2, d3] }
  | _ => none }
def dirsMakeRow : OpenClaim := { program := "ytbfpgfopppfhoaagreatdoor", sum := "d75a58af40e35abc31fe163f293d678ca99669ed342b22c456e9c96a4ea58f60", func := "ratoon/ratoonlaw38.DirsMake", spec := "dirsMake", inPlace := ["internal/bytealg.CountString", "internal/bytealg.IndexByteString", "internal/bytealg.IndexString"], unfollowed := true, recurses := true, named := ["unicode/utf8.first", "unicode/utf8.acceptRanges", "internal/bytealg.MaxLen"], apart := false, laid := [("unicode/utf8.acceptRanges", laid_unicode_utf8_acceptRanges), ("unicode/utf8.first", laid_unicode_utf8_first)] }
def DirsMakeSaid : Prop := dirsMakeRow.holds Tryz.pinned (OpenSpec.ofChange dirsMakeSpec)

/-- ITS FALSE NEIGHBOUR: 'it returns false'. Refute it at one input. -/
def dirsMakeWrong : ChangeSpec := { name := "dirsMake", fn := fun _ => fun
  | [d1, d2, d3] => { results := [.lit (.bool false)], args := [d1, d2, d3] }
  | _ => none }
def DirsMakeWrongFalsely : Prop := dirsMakeRow.holds Tryz.pinned (OpenSpec.ofChange dirsMakeWrong)

/-- 'ratoonlaw38.DirsUnlink': WHATEVER THE INPUT: true; the input reads as it did. -/
def dirsUnlinkSpec : ChangeSpec := { name := "dirsUnlink", fn := fun _ => fun
  | [d1, d2] => { results := [.lit (.bool true)], args := [d1, d2] }
  | _ => none }
def dirsUnlinkRow : OpenClaim := { program := "ytbfpgfopppfhoaagreatdoor", sum := "d75a58af40e35abc31fe163f293d678ca99669ed342b22c456e9c96a4ea58f60", func := "ratoon/ratoonlaw38.DirsUnlink", spec := "dirsUnlink", inPlace := ["internal/bytealg.CountString", "internal/bytealg.IndexByteString", "internal/bytealg.IndexString"], unfollowed := true, recurses := true, named := ["unicode/utf8.first", "unicode/utf8.acceptRanges", "internal/bytealg.MaxLen"], apart := false, laid := [("unicode/utf8.acceptRanges", laid_unicode_utf8_acceptRanges), ("unicode/utf8.first", laid_unicode_utf8_first)] }
def DirsUnlinkSaid : Prop := dirsUnlinkRow.holds Tryz.pinned (OpenSpec.ofChange dirsUnlinkSpec)

/-- ITS FALSE NEIGHBOUR: 'it returns false'. Refute it at one input. -/
def dirsUnlinkWrong : ChangeSpec := { name := "dirsUnlink", fn := fun _ => fun
  | [d1, d2] => { results := [.lit (.bool false)], args := [d1, d2] }
  | _ => none }
def DirsUnlinkWrongFalsely : Prop := dirsUnlinkRow.holds Tryz.pinned (OpenSpec.ofChange dirsUnlinkWrong)

/-- 'ratoonlaw38.DirsCheck': WHATEVER THE INPUT: true; the input reads as it did. -/
def dirsCheckSpec : ChangeSpec := { name := "dirsCheck", fn := fun _ => fun
  | [d1, d2] => { results := [.lit (.bool true)], args := [d1, d2] }
  | _ => none }
def dirsCheckRow : OpenClaim := { program := "ytbfpgfopppfhoaagreatdoor", sum := "d75a58af40e35abc31fe163f293d678ca99669ed342b22c456e9c96a4ea58f60", func := "ratoon/ratoonlaw38.DirsCheck", spec := "dirsCheck", inPlace := ["internal/bytealg.CountString", "internal/bytealg.IndexByteString", "internal/bytealg.IndexString"], unfollowed := true, recurses := true, named := ["unicode/utf8.first", "unicode/utf8.acceptRanges", "internal/bytealg.MaxLen"], apart := false, laid := [("unicode/utf8.acceptRanges", laid_unicode_utf8_acceptRanges), ("unicode/utf8.first", laid_unicode_utf8_first)] }
def DirsCheckSaid : Prop := dirsCheckRow.holds Tryz.pinned (OpenSpec.ofChange dirsCheckSpec)

/-- ITS FALSE NEIGHBOUR: 'it returns false'. Refute it at one input. -/
def dirsCheckWrong : ChangeSpec := { name := "dirsCheck", fn := fun _ => fun
  | [d1, d2] => { results := [.lit (.bool false)], args := [d1, d2] }
  | _ => none }
def DirsCheckWrongFalsely : Prop := dirsCheckRow.holds Tryz.pinned (OpenSpec.ofChange dirsCheckWrong)

/-- 'ratoonlaw38.DirsTree': WHATEVER THE INPUT: true; the input reads as it did. -/
def dirsTreeSpec : ChangeSpec := { name := "dirsTree", fn := fun _ => fun
  | [d1, d2, d3] => { results := [.lit (.bool true)], args := [d1, d2, d3] }
  | _ => none }
def dirsTreeRow : OpenClaim := { program := "ytbfpgfopppfhoaagreatdoor", sum := "d75a58af40e35abc31fe163f293d678ca99669ed342b22c456e9c96a4ea58f60", func := "ratoon/ratoonlaw38.DirsTree", spec := "dirsTree", inPlace := ["internal/bytealg.CountString", "internal/bytealg.IndexByteString", "internal/bytealg.IndexString"], unfollowed := true, recurses := true, named := ["unicode/utf8.first", "unicode/utf8.acceptRanges", "internal/bytealg.MaxLen"], apart := false, laid := [("unicode/utf8.acceptRanges", laid_unicode_utf8_acceptRanges), ("unicode/utf8.first", laid_unicode_utf8_first)] }
def DirsTreeSaid : Prop := dirsTreeRow.holds Tryz.pinned (OpenSpec.ofChange dirsTreeSpec)

/-- ITS FALSE NEIGHBOUR: 'it returns false'. Refute it at one input. -/
def dirsTreeWrong : ChangeSpec := { name := "dirsTree", fn := fun _ => fun
  | [d1, d2, d3] => { results := [.lit (.bool false)], args := [d1, d2, d3] }
  | _ => none }
def DirsTreeWrongFalsely : Prop := dirsTreeRow.holds Tryz.pinned (OpenSpec.ofChange dirsTreeWrong)

/-- 'ratoonlaw38.DirsRemoves': WHATEVER THE INPUT: true; the input reads as it did. -/
def dirsRemovesSpec : ChangeSpec := { name := "dirsRemoves", fn := fun _ => fun
  | [d1, d2] => { results := [.lit (.bool true)], args := [d1, d2] }
  | _ => none }
def dirsRemovesRow : OpenClaim := { program := "ytbfpgfopppfhoaagreatdoor", sum := "d75a58af40e35abc31fe163f293d678ca99669ed342b22c456e9c96a4ea58f60", func := "ratoon/ratoonlaw38.DirsRemoves", spec := "dirsRemoves", inPlace := ["internal/bytealg.CountString", "internal/bytealg.IndexByteString", "internal/bytealg.IndexString"], unfollowed := true, recurses := true, named := ["unicode/utf8.first", "unicode/utf8.acceptRanges", "internal/bytealg.MaxLen"], apart := false, laid := [("unicode/utf8.acceptRanges", laid_unicode_utf8_acceptRanges), ("unicode/utf8.first", laid_unicode_utf8_first)] }
def DirsRemovesSaid : Prop := dirsRemovesRow.holds Tryz.pinned (OpenSpec.ofChange dirsRemovesSpec)

/-- ITS FALSE NEIGHBOUR: 'it returns false'. Refute it at one input. -/
def dirsRemovesWrong : ChangeSpec := { name := "dirsRemoves", fn := fun _ => fun
  | [d1, d2] => { results := [.lit (.bool false)], args := [d1, d2] }
  | _ => none }
def DirsRemovesWrongFalsely : Prop := dirsRemovesRow.holds Tryz.pinned (OpenSpec.ofChange dirsRemovesWrong)

/-- 'ratoonlaw38.DirsBack': WHATEVER THE INPUT: true; the input reads as it did. -/
def dirsBackSpec : ChangeSpec := { name := "dirsBack", fn := fun _ => fun
  | [d1, d2, d3] => { results := [.lit (.bool true)], args := [d1, d2, d3] }
  | _ => none }
def dirsBackRow : OpenClaim := { program := "ytbfpgfopppfhoaagreatdoor", sum := "d75a58af40e35abc31fe163f293d678ca99669ed342b22c456e9c96a4ea58f60", func := "ratoon/ratoonlaw38.DirsBack", spec := "dirsBack", inPlace := ["internal/bytealg.CountString", "internal/bytealg.IndexByteString", "internal/bytealg.IndexString"], unfollowed := true, recurses := true, named := ["unicode/utf8.first", "unicode/utf8.acceptRanges", "internal/bytealg.MaxLen"], apart := false, laid := [("unicode/utf8.acceptRanges", laid_unicode_utf8_acceptRanges), ("unicode/utf8.first", laid_unicode_utf8_first)] }
def DirsBackSaid : Prop := dirsBackRow.holds Tryz.pinned (OpenSpec.ofChange dirsBackSpec)

/-- ITS FALSE NEIGHBOUR: 'it returns false'. Refute it at one input. -/
def dirsBackWrong : ChangeSpec := { name := "dirsBack", fn := fun _ => fun
  | [d1, d2, d3] => { results := [.lit (.bool false)], args := [d1, d2, d3] }
  | _ => none }
def DirsBackWrongFalsely : Prop := dirsBackRow.holds Tryz.pinned (OpenSpec.ofChange dirsBackWrong)

/-- 'ratoonlaw38.DirsWalk': WHATEVER THE INPUT: true; the input reads as it did. -/
def dirsWalkSpec : ChangeSpec := { name := "dirsWalk", fn := fun _ => fun
  | [d1, d2, d3] => { results := [.lit (.bool true)], args := [d1, d2, d3] }
  | _ => none }
def dirsWalkRow : OpenClaim := { program := "ytbfpgfopppfhoaagreatdoor", sum := "d75a58af40e35abc31fe163f293d678ca99669ed342b22c456e9c96a4ea58f60", func := "ratoon/ratoonlaw38.DirsWalk", spec := "dirsWalk", inPlace := ["internal/bytealg.CountString", "internal/bytealg.IndexByteString", "internal/bytealg.IndexString"], unfollowed := true, recurses := true, named := ["unicode/utf8.first", "unicode/utf8.acceptRanges", "internal/bytealg.MaxLen"], apart := false, laid := [("unicode/utf8.acceptRanges", laid_unicode_utf8_acceptRanges), ("unicode/utf8.first", laid_unicode_utf8_first)] }
def DirsWalkSaid : Prop := dirsWalkRow.holds Tryz.pinned (OpenSpec.ofChange dirsWalkSpec)

/-- ITS FALSE NEIGHBOUR: 'it returns false'. Refute it at one input. -/
def dirsWalkWrong : ChangeSpec := { name := "dirsWalk", fn := fun _ => fun
  | [d1, d2, d3] => { results := [.lit (.bool false)], args := [d1, d2, d3] }
  | _ => none }
def DirsWalkWrongFalsely : Prop := dirsWalkRow.holds Tryz.pinned (OpenSpec.ofChange dirsWalkWrong)

/-- 'ratoonlaw38.DirsList': WHATEVER THE INPUT: true; the input reads as it did. -/
def dirsListSpec : ChangeSpec := { name := "dirsList", fn := fun _ => fun
  | [d1, d2] => { results := [.lit (.bool true)], args := [d1, d2] }
  | _ => none }
def dirsListRow : OpenClaim := { program := "ytbfpgfopppfhoaagreatdoor", sum := "d75a58af40e35abc31fe163f293d678ca99669ed342b22c456e9c96a4ea58f60", func := "ratoon/ratoonlaw38.DirsList", spec := "dirsList", inPlace := ["internal/bytealg.CountString", "internal/bytealg.IndexByteString", "internal/bytealg.IndexString"], unfollowed := true, recurses := true, named := ["unicode/utf8.first", "unicode/utf8.acceptRanges", "internal/bytealg.MaxLen"], apart := false, laid := [("unicode/utf8.acceptRanges", laid_unicode_utf8_acceptRanges), ("unicode/utf8.first", laid_unicode_utf8_first)] }
def DirsListSaid : Prop := dirsListRow.holds Tryz.pinned (OpenSpec.ofChange dirsListSpec)

/-- ITS FALSE NEIGHBOUR: 'it returns false'. Refute it at one input. -/
def dirsListWrong : ChangeSpec := { name := "dirsList", fn := fun _ => fun
  | [d1, d2] => { results := [.lit (.bool false)], args := [d1, d2] }
  | _ => none }
def DirsListWrongFalsely : Prop := dirsListRow.holds Tryz.pinned (OpenSpec.ofChange dirsListWrong)

/- THE SECOND FORM. 'bulk': how many values and letters a reading holds, each counted each time it is reached (what is shared counts as often as it is met; a slice's spare places count too). A statement '..UptoSaid' is the law's where the arguments, and the package variables that the reading takes, are together of bulk at most 1048576: NARROWER than '..Said'. Prove '..Said' where nothing that the law and all that it calls make is longer than what came in: it says more and counts as full. Else prove '..UptoSaid'. A law counts once. -/
mutual
def uptoBulk {H : Type} : DataW H → Nat
  | .lit (.string bytes) => bytes.length + 1
  | .lit _ => 1
  | .nil => 1
  | .ptr d => uptoBulk d + 1
  | .slice elems spare => uptoBulkAll elems + uptoBulkAll spare + 1
  | .agg parts => uptoBulkAll parts + 1
  | .iface _ d => uptoBulk d + 1
  | .map entries => uptoBulkEntries entries + 1
  | .held _ => 1
def uptoBulkAll {H : Type} : List (DataW H) → Nat
  | [] => 0
  | d :: r => uptoBulk d + uptoBulkAll r
def uptoBulkEntries {H : Type} : List (Lit × DataW H) → Nat
  | [] => 0
  | x :: r => uptoBulkEntry x + uptoBulkEntries r
def uptoBulkEntry {H : Type} : Lit × DataW H → Nat
  | (.string bytes, d) => bytes.length + uptoBulk d + 1
  | (_, d) => uptoBulk d + 1
 end
def uptoSmall : (H : Type) → List (DataW H) → Bool := fun _ ds => decide (uptoBulkAll ds ≤ 1048576)
def OpenSpec.upto (s : _root_.Go.ChangeSpec) : _root_.Go.OpenSpec := { _root_.Go.OpenSpec.ofChange s with cond := some uptoSmall }

/-- 'ratoonlaw38.DirsNames', WHERE WHAT IT READS IS OF BULK AT MOST 1048576: true; the input reads as it did. -/
def dirsNamesUptoRow : OpenClaim := { program := "ytbfpgfopppfhoaagreatdoor", sum := "d75a58af40e35abc31fe163f293d678ca99669ed342b22c456e9c96a4ea58f60", func := "ratoon/ratoonlaw38.DirsNames", spec := "dirsNames", inPlace := ["internal/bytealg.CountString", "internal/bytealg.IndexByteString", "internal/bytealg.IndexString"], unfollowed := true, recurses := true, named := ["unicode/utf8.first", "unicode/utf8.acceptRanges", "internal/bytealg.MaxLen"], apart := false, laid := [("unicode/utf8.acceptRanges", laid_unicode_utf8_acceptRanges), ("unicode/utf8.first", laid_unicode_utf8_first)], narrowed := true }
def DirsNamesUptoSaid : Prop := dirsNamesUptoRow.holds Tryz.pinned (OpenSpec.upto dirsNamesSpec)

/-- 'ratoonlaw38.DirsMake', WHERE WHAT IT READS IS OF BULK AT MOST 1048576: true; the input reads as it did. -/
def dirsMakeUptoRow : OpenClaim := { program := "ytbfpgfopppfhoaagreatdoor", sum := "d75a58af40e35abc31fe163f293d678ca99669ed342b22c456e9c96a4ea58f60", func := "ratoon/ratoonlaw38.DirsMake", spec := "dirsMake", inPlace := ["internal/bytealg.CountString", "internal/bytealg.IndexByteString", "internal/bytealg.IndexString"], unfollowed := true, recurses := true, named := ["unicode/utf8.first", "unicode/utf8.acceptRanges", "internal/bytealg.MaxLen"], apart := false, laid := [("unicode/utf8.acceptRanges", laid_unicode_utf8_acceptRanges), ("unicode/utf8.first", laid_unicode_utf8_first)], narrowed := true }
def DirsMakeUptoSaid : Prop := dirsMakeUptoRow.holds Tryz.pinned (OpenSpec.upto dirsMakeSpec)

/-- 'ratoonlaw38.DirsUnlink', WHERE WHAT IT READS IS OF BULK AT MOST 1048576: true; the input reads as it did. -/
def dirsUnlinkUptoRow : OpenClaim := { program := "ytbfpgfopppfhoaagreatdoor", sum := "d75a58af40e35abc31fe163f293d678ca99669ed342b22c456e9c96a4ea58f60", func := "ratoon/ratoonlaw38.DirsUnlink", spec := "dirsUnlink", inPlace := ["internal/bytealg.CountString", "internal/bytealg.IndexByteString", "internal/bytealg.IndexString"], unfollowed := true, recurses := true, named := ["unicode/utf8.first", "unicode/utf8.acceptRanges", "internal/bytealg.MaxLen"], apart := false, laid := [("unicode/utf8.acceptRanges", laid_unicode_utf8_acceptRanges), ("unicode/utf8.first", laid_unicode_utf8_first)], narrowed := true }
def DirsUnlinkUptoSaid : Prop := dirsUnlinkUptoRow.holds Tryz.pinned (OpenSpec.upto dirsUnlinkSpec)

/-- 'ratoonlaw38.DirsCheck', WHERE WHAT IT READS IS OF BULK AT MOST 1048576: true; the input reads as it did. -/
def dirsCheckUptoRow : OpenClaim := { program := "ytbfpgfopppfhoaagreatdoor", sum := "d75a58af40e35abc31fe163f293d678ca99669ed342b22c456e9c96a4ea58f60", func := "ratoon/ratoonlaw38.DirsCheck", spec := "dirsCheck", inPlace := ["internal/bytealg.CountString", "internal/bytealg.IndexByteString", "internal/bytealg.IndexString"], unfollowed := true, recurses := true, named := ["unicode/utf8.first", "unicode/utf8.acceptRanges", "internal/bytealg.MaxLen"], apart := false, laid := [("unicode/utf8.acceptRanges", laid_unicode_utf8_acceptRanges), ("unicode/utf8.first", laid_unicode_utf8_first)], narrowed := true }
def DirsCheckUptoSaid : Prop := dirsCheckUptoRow.holds Tryz.pinned (OpenSpec.upto dirsCheckSpec)

/-- 'ratoonlaw38.DirsTree', WHERE WHAT IT READS IS OF BULK AT MOST 1048576: true; the input reads as it did. -/
def dirsTreeUptoRow : OpenClaim := { program := "ytbfpgfopppfhoaagreatdoor", sum := "d75a58af40e35abc31fe163f293d678ca99669ed342b22c456e9c96a4ea58f60", func := "ratoon/ratoonlaw38.DirsTree", spec := "dirsTree", inPlace := ["internal/bytealg.CountString", "internal/bytealg.IndexByteString", "internal/bytealg.IndexString"], unfollowed := true, recurses := true, named := ["unicode/utf8.first", "unicode/utf8.acceptRanges", "internal/bytealg.MaxLen"], apart := false, laid := [("unicode/utf8.acceptRanges", laid_unicode_utf8_acceptRanges), ("unicode/utf8.first", laid_unicode_utf8_first)], narrowed := true }
def DirsTreeUptoSaid : Prop := dirsTreeUptoRow.holds Tryz.pinned (OpenSpec.upto dirsTreeSpec)

/-- 'ratoonlaw38.DirsRemoves', WHERE WHAT IT READS IS OF BULK AT MOST 1048576: true; the input reads as it did. -/
def dirsRemovesUptoRow : OpenClaim := { program := "ytbfpgfopppfhoaagreatdoor", sum := "d75a58af40e35abc31fe163f293d678ca99669ed342b22c456e9c96a4ea58f60", func := "ratoon/ratoonlaw38.DirsRemoves", spec := "dirsRemoves", inPlace := ["internal/bytealg.CountString", "internal/bytealg.IndexByteString", "internal/bytealg.IndexString"], unfollowed := true, recurses := true, named := ["unicode/utf8.first", "unicode/utf8.acceptRanges", "internal/bytealg.MaxLen"], apart := false, laid := [("unicode/utf8.acceptRanges", laid_unicode_utf8_acceptRanges), ("unicode/utf8.first", laid_unicode_utf8_first)], narrowed := true }
def DirsRemovesUptoSaid : Prop := dirsRemovesUptoRow.holds Tryz.pinned (OpenSpec.upto dirsRemovesSpec)

/-- 'ratoonlaw38.DirsBack', WHERE WHAT IT READS IS OF BULK AT MOST 1048576: true; the input reads as it did. -/
def dirsBackUptoRow : OpenClaim := { program := "ytbfpgfopppfhoaagreatdoor", sum := "d75a58af40e35abc31fe163f293d678ca99669ed342b22c456e9c96a4ea58f60", func := "ratoon/ratoonlaw38.DirsBack", spec := "dirsBack", inPlace := ["internal/bytealg.CountString", "internal/bytealg.IndexByteString", "internal/bytealg.IndexString"], unfollowed := true, recurses := true, named := ["unicode/utf8.first", "unicode/utf8.acceptRanges", "internal/bytealg.MaxLen"], apart := false, laid := [("unicode/utf8.acceptRanges", laid_unicode_utf8_acceptRanges), ("unicode/utf8.first", laid_unicode_utf8_first)], narrowed := true }
def DirsBackUptoSaid : Prop := dirsBackUptoRow.holds Tryz.pinned (OpenSpec.upto dirsBackSpec)

/-- 'ratoonlaw38.DirsWalk', WHERE WHAT IT READS IS OF BULK AT MOST 1048576: true; the input reads as it did. -/
def dirsWalkUptoRow : OpenClaim := { program := "ytbfpgfopppfhoaagreatdoor", sum := "d75a58af40e35abc31fe163f293d678ca99669ed342b22c456e9c96a4ea58f60", func := "ratoon/ratoonlaw38.DirsWalk", spec := "dirsWalk", inPlace := ["internal/bytealg.CountString", "internal/bytealg.IndexByteString", "internal/bytealg.IndexString"], unfollowed := true, recurses := true, named := ["unicode/utf8.first", "unicode/utf8.acceptRanges", "internal/bytealg.MaxLen"], apart := false, laid := [("unicode/utf8.acceptRanges", laid_unicode_utf8_acceptRanges), ("unicode/utf8.first", laid_unicode_utf8_first)], narrowed := true }
def DirsWalkUptoSaid : Prop := dirsWalkUptoRow.holds Tryz.pinned (OpenSpec.upto dirsWalkSpec)

/-- 'ratoonlaw38.DirsList', WHERE WHAT IT READS IS OF BULK AT MOST 1048576: true; the input reads as it did. -/
def dirsListUptoRow : OpenClaim := { program := "ytbfpgfopppfhoaagreatdoor", sum := "d75a58af40e35abc31fe163f293d678ca99669ed342b22c456e9c96a4ea58f60", func := "ratoon/ratoonlaw38.DirsList", spec := "dirsList", inPlace := ["internal/bytealg.CountString", "internal/bytealg.IndexByteString", "internal/bytealg.IndexString"], unfollowed := true, recurses := true, named := ["unicode/utf8.first", "unicode/utf8.acceptRanges", "internal/bytealg.MaxLen"], apart := false, laid := [("unicode/utf8.acceptRanges", laid_unicode_utf8_acceptRanges), ("unicode/utf8.first", laid_unicode_utf8_first)], narrowed := true }
def DirsListUptoSaid : Prop := dirsListUptoRow.holds Tryz.pinned (OpenSpec.upto dirsListSpec)

end Rows
end Go.Proofs.YtbfpgfopppfhoaaGreatDoor
