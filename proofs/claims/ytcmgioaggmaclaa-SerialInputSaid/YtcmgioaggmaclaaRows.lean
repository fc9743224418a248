/-
  No cell of these rows narrows 'for every input' (looked for: loops, veiled, ifaces, maps, wideKeys, modest, calm, conditions, laid).
  DERIVED. THE GIVEN ROWS OF THIS SEAT. 6 by the template 'for every input the law returns true; each argument reads behind the call as it read before'; 0 by the template 'total and deterministic' (their statements: YtcmgioaggmaclaaTotals.lean).
  GIVEN WITH THE SEED: the statements are not yours to turn. If you find one false, say at which input.
  Laid BY PROGRAM, IN A SANDBOX (cutbox-rows.mjs): the forced cells as the released guide's own fill.sh prints them over the translation 2e4b09ac1b98193a… (all of the seat's roots in one cut). By AI agents, Wed Nov 11 2026. No macro, syntax, notation, axiom, sorry.
-/
import Derived.Test.YtcmgioaggmaclaaChecked
import GoSem.Claim
import GoSem.ClaimJoined
import GoSem.ClaimMapViews
import Derived.JoinedTies
import Derived.KernelRfl
namespace Go.Proofs.Ytcmgioaggmaclaa
/- THE CELL 'sum', in the pinned program and in every row, IS THE sha256 OF THE DUMP (.gsa) THAT YtcmgioaggmaclaaProg.lean LOADS. Nothing in Lean hashes anything: it is a label: what it is worth is what the hold of that sum in a sandbox is worth. -/
noncomputable def Try.pinned : Pinned := { name := "ytcmgioaggmaclaa", sum := "2e4b09ac1b98193ab3deee01dabb70372067c47656642f5ddc23b73bccca893d", checked := Try.checked }
namespace Rows
def none {H : Type} : Left H := { results := [], args := [] }

/-- 'ratoonlaw13.SerialTick': WHATEVER THE INPUT: true; the input reads as it did. -/
def serialTickSpec : ChangeSpec := { name := "serialTick", fn := fun _ => fun
  | [d1, d2] => { results := [.lit (.bool true)], args := [d1, d2] }
  | _ => none }
def serialTickRow : OpenClaim := { program := "ytcmgioaggmaclaa", sum := "2e4b09ac1b98193ab3deee01dabb70372067c47656642f5ddc23b73bccca893d", func := "ratoon/ratoonlaw13.SerialTick", spec := "serialTick", apart := false }
def SerialTickSaid : Prop := serialTickRow.holds Try.pinned (OpenSpec.ofChange serialTickSpec)

/-- ITS FALSE NEIGHBOUR: 'it returns false'. Refute it at one input. -/
def serialTickWrong : ChangeSpec := { name := "serialTick", fn := fun _ => fun
  | [d1, d2] => { results := [.lit (.bool false)], args := [d1, d2] }
  | _ => none }
def SerialTickWrongFalsely : Prop := serialTickRow.holds Try.pinned (OpenSpec.ofChange serialTickWrong)

/-- 'ratoonlaw13.SerialOutput': WHATEVER THE INPUT: true; the input reads as it did. -/
def serialOutputSpec : ChangeSpec := { name := "serialOutput", fn := fun _ => fun
  | [d1, d2, d3] => { results := [.lit (.bool true)], args := [d1, d2, d3] }
  | _ => none }
def serialOutputRow : OpenClaim := { program := "ytcmgioaggmaclaa", sum := "2e4b09ac1b98193ab3deee01dabb70372067c47656642f5ddc23b73bccca893d", func := "ratoon/ratoonlaw13.SerialOutput", spec := "serialOutput", apart := false }
def SerialOutputSaid : Prop := serialOutputRow.holds Try.pinned (OpenSpec.ofChange serialOutputSpec)

/-- ITS FALSE NEIGHBOUR: 'it returns false'. Refute it at one input. -/
def serialOutputWrong : ChangeSpec := { name := "serialOutput", fn := fun _ => fun
  | [d1, d2, d3] => { results := [.lit (.bool false)], args := [d1, d2, d3] }
  | _ => none }
def SerialOutputWrongFalsely : Prop := serialOutputRow.holds Try.pinned (OpenSpec.ofChange serialOutputWrong)

/-- 'ratoonlaw13.SerialInput': WHATEVER THE INPUT: true; the input reads as it did. -/
def serialInputSpec : ChangeSpec := { name := "serialInput", fn := fun _ => fun
  | [d1, d2, d3] => { results := [.lit (.bool true)], args := [d1, d2, d3] }
  | _ => none }
def serialInputRow : OpenClaim := { program := "ytcmgioaggmaclaa", sum := "2e4b09ac1b98193ab3deee01dabb70372067c47656642f5ddc23b73bccca893d", func := "ratoon/ratoonlaw13.SerialInput", spec := "serialInput", apart := false }
def SerialInputSaid : Prop := serialInputRow.holds Try.pinned (OpenSpec.ofChange serialInputSpec)

/-- ITS FALSE NEIGHBOUR: 'it returns false'. Refute it at one input. -/
def serialInputWrong : ChangeSpec := { name := "serialInput", fn := fun _ => fun
  | [d1, d2, d3] => { results := [.lit (.bool false)], args := [d1, d2, d3] }
  | _ => none }
def SerialInputWrongFalsely : Prop := serialInputRow.holds Try.pinned (OpenSpec.ofChange serialInputWrong)

/-- 'ratoonlaw13.SerialTime': WHATEVER THE INPUT: true; the input reads as it did. -/
def serialTimeSpec : ChangeSpec := { name := "serialTime", fn := fun _ => fun
  | [d] => { results := [.lit (.bool true)], args := [d] }
  | _ => none }
def serialTimeRow : OpenClaim := { program := "ytcmgioaggmaclaa", sum := "2e4b09ac1b98193ab3deee01dabb70372067c47656642f5ddc23b73bccca893d", func := "ratoon/ratoonlaw13.SerialTime", spec := "serialTime", apart := false }
def SerialTimeSaid : Prop := serialTimeRow.holds Try.pinned (OpenSpec.ofChange serialTimeSpec)

/-- ITS FALSE NEIGHBOUR: 'it returns false'. Refute it at one input. -/
def serialTimeWrong : ChangeSpec := { name := "serialTime", fn := fun _ => fun
  | [d] => { results := [.lit (.bool false)], args := [d] }
  | _ => none }
def SerialTimeWrongFalsely : Prop := serialTimeRow.holds Try.pinned (OpenSpec.ofChange serialTimeWrong)

/-- 'ratoonlaw13.SerialDo': WHATEVER THE INPUT: true; the input reads as it did. -/
def serialDoSpec : ChangeSpec := { name := "serialDo", fn := fun _ => fun
  | [d1, d2] => { results := [.lit (.bool true)], args := [d1, d2] }
  | _ => none }
def serialDoRow : OpenClaim := { program := "ytcmgioaggmaclaa", sum := "2e4b09ac1b98193ab3deee01dabb70372067c47656642f5ddc23b73bccca893d", func := "ratoon/ratoonlaw13.SerialDo", spec := "serialDo", apart := false }
def SerialDoSaid : Prop := serialDoRow.holds Try.pinned (OpenSpec.ofChange serialDoSpec)

/-- ITS FALSE NEIGHBOUR: 'it returns false'. Refute it at one input. -/
def serialDoWrong : ChangeSpec := { name := "serialDo", fn := fun _ => fun
  | [d1, d2] => { results := [.lit (.bool false)], args := [d1, d2] }
  | _ => none }
def SerialDoWrongFalsely : Prop := serialDoRow.holds Try.pinned (OpenSpec.ofChange serialDoWrong)

/-- 'ratoonlaw13.SerialOnce': WHATEVER THE INPUT: true; the input reads as it did. -/
def serialOnceSpec : ChangeSpec := { name := "serialOnce", fn := fun _ => fun
  | [d1, d2, d3] => { results := [.lit (.bool true)], args := [d1, d2, d3] }
  | _ => none }
def serialOnceRow : OpenClaim := { program := "ytcmgioaggmaclaa", sum := "2e4b09ac1b98193ab3deee01dabb70372067c47656642f5ddc23b73bccca893d", func := "ratoon/ratoonlaw13.SerialOnce", spec := "serialOnce", apart := false }
def SerialOnceSaid : Prop := serialOnceRow.holds Try.pinned (OpenSpec.ofChange serialOnceSpec)

/-- ITS FALSE NEIGHBOUR: 'it returns false'. Refute it at one input. -/
def serialOnceWrong : ChangeSpec := { name := "serialOnce", fn := fun _ => fun
  | [d1, d2, d3] => { results := [.lit (.bool false)], args := [d1, d2, d3] }
  | _ => none }
def SerialOnceWrongFalsely : Prop := serialOnceRow.holds Try.pinned (OpenSpec.ofChange serialOnceWrong)

/- THE SECOND FORM. 'bulk': how many values and letters a reading holds, each counted each time it is reached (what is shared counts as often as it is met; a slice's spare places count too). A statement '..UptoSaid' is the law's where the arguments, and the package variables that the reading takes, are together of bulk at most 1048576: NARROWER than '..Said'. Prove '..Said' where nothing that the law and all that it calls make is longer than what came in: it says more and counts as full. Else prove '..UptoSaid'. A law counts once. -/
mutual
def uptoBulk {H : Type} : DataW H → Nat
  | .lit (.string bytes) => bytes.length + 1
  | .lit _ => 1
  | .nil => 1
  | .ptr d => uptoBulk d + 1
  | .slice elems spare => uptoBulkAll elems + uptoBulkAll spare + 1
  | .agg parts => uptoBulkAll parts + 1
  | .iface _ d => uptoBulk d + 1
  | .map entries => uptoBulkEntries entries + 1
  | .held _ => 1
def uptoBulkAll {H : Type} : List (DataW H) → Nat
  | [] => 0
  | d :: r => uptoBulk d + uptoBulkAll r
def uptoBulkEntries {H : Type} : List (Lit × DataW H) → Nat
  | [] => 0
  | x :: r => uptoBulkEntry x + uptoBulkEntries r
def uptoBulkEntry {H : Type} : Lit × DataW H → Nat
  | (.string bytes, d) => bytes.length + uptoBulk d + 1
  | (_, d) => uptoBulk d + 1
 end
def uptoSmall : (H : Type) → List (DataW H) → Bool := fun _ ds => decide (uptoBulkAll ds ≤ 1048576)
def OpenSpec.upto (s : _root_.Go.ChangeSpec) : _root_.Go.OpenSpec := { _root_.Go.OpenSpec.ofChange s with cond := some uptoSmall }

/-- 'ratoonlaw13.SerialTick', WHERE WHAT IT READS IS OF BULK AT MOST 1048576: true; the input reads as it did. -/
def serialTickUptoRow : OpenClaim := { program := "ytcmgioaggmaclaa", sum := "2e4b09ac1b98193ab3deee01dabb70372067c47656642f5ddc23b73bccca893d", func := "ratoon/ratoonlaw13.SerialTick", spec := "serialTick", apart := false, narrowed := true }
def SerialTickUptoSaid : Prop := serialTickUptoRow.holds Try.pinned (OpenSpec.upto serialTickSpec)

/-- 'ratoonlaw13.SerialOutput', WHERE WHAT IT READS IS OF BULK AT MOST 1048576: true; the input reads as it did. -/
def serialOutputUptoRow : OpenClaim := { program := "ytcmgioaggmaclaa", sum := "2e4b09ac1b98193ab3deee01dabb70372067c47656642f5ddc23b73bccca893d", func := "ratoon/ratoonlaw13.SerialOutput", spec := "serialOutput", apart := false, narrowed := true }
def SerialOutputUptoSaid : Prop := serialOutputUptoRow.holds Try.pinned (OpenSpec.upto serialOutputSpec)

/-- 'ratoonlaw13.SerialInput', WHERE WHAT IT READS IS OF BULK AT MOST 1048576: true; the input reads as it did. -/
def serialInputUptoRow : OpenClaim := { program := "ytcmgioaggmaclaa", sum := "2e4b09ac1b98193ab3deee01dabb70372067c47656642f5ddc23b73bccca893d", func := "ratoon/ratoonlaw13.SerialInput", spec := "serialInput", apart := false, narrowed := true }
def SerialInputUptoSaid : Prop := serialInputUptoRow.holds Try.pinned (OpenSpec.upto serialInputSpec)

/-- 'ratoonlaw13.SerialTime', WHERE WHAT IT READS IS OF BULK AT MOST 1048576: true; the input reads as it did. -/
def serialTimeUptoRow : OpenClaim := { program := "ytcmgioaggmaclaa", sum := "2e4b09ac1b98193ab3deee01dabb70372067c47656642f5ddc23b73bccca893d", func := "ratoon/ratoonlaw13.SerialTime", spec := "serialTime", apart := false, narrowed := true }
def SerialTimeUptoSaid : Prop := serialTimeUptoRow.holds Try.pinned (OpenSpec.upto serialTimeSpec)

/-- 'ratoonlaw13.SerialDo', WHERE WHAT IT READS IS OF BULK AT MOST 1048576: true; the input reads as it did. -/
def serialDoUptoRow : OpenClaim := { program := "ytcmgioaggmaclaa", sum := "2e4b09ac1b98193ab3deee01dabb70372067c47656642f5ddc23b73bccca893d", func := "ratoon/ratoonlaw13.SerialDo", spec := "serialDo", apart := false, narrowed := true }
def SerialDoUptoSaid : Prop := serialDoUptoRow.holds Try.pinned (OpenSpec.upto serialDoSpec)

/-- 'ratoonlaw13.SerialOnce', WHERE WHAT IT READS IS OF BULK AT MOST 1048576: true; the input reads as it did. -/
def serialOnceUptoRow : OpenClaim := { program := "ytcmgioaggmaclaa", sum := "2e4b09ac1b98193ab3deee01dabb70372067c47656642f5ddc23b73bccca893d", func := "ratoon/ratoonlaw13.SerialOnce", spec := "serialOnce", apart := false, narrowed := true }
def SerialOnceUptoSaid : Prop := serialOnceUptoRow.holds Try.pinned (OpenSpec.upto serialOnceSpec)

end Rows
end Go.Proofs.Ytcmgioaggmaclaa
