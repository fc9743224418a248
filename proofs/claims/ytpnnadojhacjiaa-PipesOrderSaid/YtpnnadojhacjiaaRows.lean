/-
  No cell of these rows narrows 'for every input' (looked for: loops, veiled, ifaces, maps, wideKeys, modest, calm, conditions, laid).
  DERIVED. THE GIVEN ROWS OF THIS SEAT. 4 by the template 'for every input the law returns true; each argument reads behind the call as it read before'; 0 by the template 'total and deterministic' (their statements: YtpnnadojhacjiaaTotals.lean).
  GIVEN WITH THE SEED: the statements are not yours to turn. If you find one false, say at which input.
  Laid BY PROGRAM, IN A SANDBOX (cutbox-rows.mjs): the forced cells as the released guide's own fill.sh prints them over the translation 05466c4ca4ee79b6… (all of the seat's roots in one cut). By AI agents, Wed Nov 11 2026. No macro, syntax, notation, axiom, sorry.
-/
import Derived.Test.YtpnnadojhacjiaaChecked
import GoSem.Claim
import GoSem.ClaimJoined
import GoSem.ClaimMapViews
import Derived.JoinedTies
import Derived.KernelRfl
namespace Go.Proofs.Ytpnnadojhacjiaa
/- THE CELL 'sum', in the pinned program and in every row, IS THE sha256 OF THE DUMP (.gsa) THAT YtpnnadojhacjiaaProg.lean LOADS. Nothing in Lean hashes anything: it is a label: what it is worth is what the hold of that sum in a sandbox is worth. -/
noncomputable def Try.pinned : Pinned := { name := "ytpnnadojhacjiaa", sum := "05466c4ca4ee79b68e55691351e44878fdcbfc4f64c2d925b900b95fc5289504", checked := Try.checked }
namespace Rows
def none {H : Type} : Left H := { results := [], args := [] }

/-- 'ratoonlaw40.PipesScript': WHATEVER THE INPUT: true; the input reads as it did. -/
def pipesScriptSpec : ChangeSpec := { name := "pipesScript", fn := fun _ => fun
  | [d] => { results := [.lit (.bool true)], args := [d] }
  | _ => none }
def pipesScriptRow : OpenClaim := { program := "ytpnnadojhacjiaa", sum := "05466c4ca4ee79b68e55691351e44878fdcbfc4f64c2d925b900b95fc5289504", func := "ratoon/ratoonlaw40.PipesScript", spec := "pipesScript", unfollowed := true, recurses := true, apart := false }
def PipesScriptSaid : Prop := pipesScriptRow.holds Try.pinned (OpenSpec.ofChange pipesScriptSpec)

/-- ITS FALSE NEIGHBOUR: 'it returns false'. Refute it at one input. -/
def pipesScriptWrong : ChangeSpec := { name := "pipesScript", fn := fun _ => fun
  | [d] => { results := [.lit (.bool false)], args := [d] }
  | _ => none }
def PipesScriptWrongFalsely : Prop := pipesScriptRow.holds Try.pinned (OpenSpec.ofChange pipesScriptWrong)

/-- 'ratoonlaw40.PipesOrder': WHATEVER THE INPUT: true; the input reads as it did. -/
def pipesOrderSpec : ChangeSpec := { name := "pipesOrder", fn := fun _ => fun
  | [d1, d2] => { results := [.lit (.bool true)], args := [d1, d2] }
  | _ => none }
def pipesOrderRow : OpenClaim := { program := "ytpnnadojhacjiaa", sum := "05466c4ca4ee79b68e55691351e44878fdcbfc4f64c2d925b900b95fc5289504", func := "ratoon/ratoonlaw40.PipesOrder", spec := "pipesOrder", unfollowed := true, recurses := true, apart := false }
def PipesOrderSaid : Prop := pipesOrderRow.holds Try.pinned (OpenSpec.ofChange pipesOrderSpec)

/-- ITS FALSE NEIGHBOUR: 'it returns false'. Refute it at one input. -/
def pipesOrderWrong : ChangeSpec := { name := "pipesOrder", fn := fun _ => fun
  | [d1, d2] => { results := [.lit (.bool false)], args := [d1, d2] }
  | _ => none }
def PipesOrderWrongFalsely : Prop := pipesOrderRow.holds Try.pinned (OpenSpec.ofChange pipesOrderWrong)

/-- 'ratoonlaw40.PipesFirst': WHATEVER THE INPUT: true; the input reads as it did. -/
def pipesFirstSpec : ChangeSpec := { name := "pipesFirst", fn := fun _ => fun
  | [d] => { results := [.lit (.bool true)], args := [d] }
  | _ => none }
def pipesFirstRow : OpenClaim := { program := "ytpnnadojhacjiaa", sum := "05466c4ca4ee79b68e55691351e44878fdcbfc4f64c2d925b900b95fc5289504", func := "ratoon/ratoonlaw40.PipesFirst", spec := "pipesFirst", unfollowed := true, recurses := true, apart := false }
def PipesFirstSaid : Prop := pipesFirstRow.holds Try.pinned (OpenSpec.ofChange pipesFirstSpec)

/-- ITS FALSE NEIGHBOUR: 'it returns false'. Refute it at one input. -/
def pipesFirstWrong : ChangeSpec := { name := "pipesFirst", fn := fun _ => fun
  | [d] => { results := [.lit (.bool false)], args := [d] }
  | _ => none }
def PipesFirstWrongFalsely : Prop := pipesFirstRow.holds Try.pinned (OpenSpec.ofChange pipesFirstWrong)

/-- 'ratoonlaw40.PipesProgress': WHATEVER THE INPUT: true; the input reads as it did. -/
def pipesProgressSpec : ChangeSpec := { name := "pipesProgress", fn := fun _ => fun
  | [d1, d2] => { results := [.lit (.bool true)], args := [d1, d2] }
  | _ => none }
def pipesProgressRow : OpenClaim := { program := "ytpnnadojhacjiaa", sum := "05466c4ca4ee79b68e55691351e44878fdcbfc4f64c2d925b900b95fc5289504", func := "ratoon/ratoonlaw40.PipesProgress", spec := "pipesProgress", unfollowed := true, recurses := true, apart := false }
def PipesProgressSaid : Prop := pipesProgressRow.holds Try.pinned (OpenSpec.ofChange pipesProgressSpec)

/-- ITS FALSE NEIGHBOUR: 'it returns false'. Refute it at one input. -/
def pipesProgressWrong : ChangeSpec := { name := "pipesProgress", fn := fun _ => fun
  | [d1, d2] => { results := [.lit (.bool false)], args := [d1, d2] }
  | _ => none }
def PipesProgressWrongFalsely : Prop := pipesProgressRow.holds Try.pinned (OpenSpec.ofChange pipesProgressWrong)

/- THE SECOND FORM. 'bulk': how many values and letters a reading holds, each counted each time it is reached (what is shared counts as often as it is met; a slice's spare places count too). A statement '..UptoSaid' is the law's where the arguments, and the package variables that the reading takes, are together of bulk at most 1048576: NARROWER than '..Said'. Prove '..Said' where nothing that the law and all that it calls make is longer than what came in: it says more and counts as full. Else prove '..UptoSaid'. A law counts once. -/
mutual
def uptoBulk {H : Type} : DataW H → Nat
  | .lit (.string bytes) => bytes.length + 1
  | .lit _ => 1
  | .nil => 1
  | .ptr d => uptoBulk d + 1
  | .slice elems spare => uptoBulkAll elems + uptoBulkAll spare + 1
  | .agg parts => uptoBulkAll parts + 1
  | .iface _ d => uptoBulk d + 1
  | .map entries => uptoBulkEntries entries + 1
  | .held _ => 1
def uptoBulkAll {H : Type} : List (DataW H) → Nat
  | [] => 0
  | d :: r => uptoBulk d + uptoBulkAll r
def uptoBulkEntries {H : Type} : List (Lit × DataW H) → Nat
  | [] => 0
  | x :: r => uptoBulkEntry x + uptoBulkEntries r
def uptoBulkEntry {H : Type} : Lit × DataW H → Nat
  | (.string bytes, d) => bytes.length + uptoBulk d + 1
  | (_, d) => uptoBulk d + 1
 end
def uptoSmall : (H : Type) → List (DataW H) → Bool := fun _ ds => decide (uptoBulkAll ds ≤ 1048576)
def OpenSpec.upto (s : _root_.Go.ChangeSpec) : _root_.Go.OpenSpec := { _root_.Go.OpenSpec.ofChange s with cond := some uptoSmall }

/-- 'ratoonlaw40.PipesScript', WHERE WHAT IT READS IS OF BULK AT MOST 1048576: true; the input reads as it did. -/
def pipesScriptUptoRow : OpenClaim := { program := "ytpnnadojhacjiaa", sum := "05466c4ca4ee79b68e55691351e44878fdcbfc4f64c2d925b900b95fc5289504", func := "ratoon/ratoonlaw40.PipesScript", spec := "pipesScript", unfollowed := true, recurses := true, apart := false, narrowed := true }
def PipesScriptUptoSaid : Prop := pipesScriptUptoRow.holds Try.pinned (OpenSpec.upto pipesScriptSpec)

/-- 'ratoonlaw40.PipesOrder', WHERE WHAT IT READS IS OF BULK AT MOST 1048576: true; the input reads as it did. -/
def pipesOrderUptoRow : OpenClaim := { program := "ytpnnadojhacjiaa", sum := "05466c4ca4ee79b68e55691351e44878fdcbfc4f64c2d925b900b95fc5289504", func := "ratoon/ratoonlaw40.PipesOrder", spec := "pipesOrder", unfollowed := true, recurses := true, apart := false, narrowed := true }
def PipesOrderUptoSaid : Prop := pipesOrderUptoRow.holds Try.pinned (OpenSpec.upto pipesOrderSpec)

/-- 'ratoonlaw40.PipesFirst', WHERE WHAT IT READS IS OF BULK AT MOST 1048576: true; the input reads as it did. -/
def pipesFirstUptoRow : OpenClaim := { program := "ytpnnadojhacjiaa", sum := "05466c4ca4ee79b68e55691351e44878fdcbfc4f64c2d925b900b95fc5289504", func := "ratoon/ratoonlaw40.PipesFirst", spec := "pipesFirst", unfollowed := true, recurses := true, apart := false, narrowed := true }
def PipesFirstUptoSaid : Prop := pipesFirstUptoRow.holds Try.pinned (OpenSpec.upto pipesFirstSpec)

/-- 'ratoonlaw40.PipesProgress', WHERE WHAT IT READS IS OF BULK AT MOST 1048576: true; the input reads as it did. -/
def pipesProgressUptoRow : OpenClaim := { program := "ytpnnadojhacjiaa", sum := "05466c4ca4ee79b68e55691351e44878fdcbfc4f64c2d925b900b95fc5289504", func := "ratoon/ratoonlaw40.PipesProgress", spec := "pipesProgress", unfollowed := true, recurses := true, apart := false, narrowed := true }
def PipesProgressUptoSaid : Prop := pipesProgressUptoRow.holds Try.pinned (OpenSpec.upto pipesProgressSpec)

end Rows
end Go.Proofs.Ytpnnadojhacjiaa
