/- Layer 38: awake is true. -/
import Derived.Test.YtbfpgfopppfhoaaGreatDoorYtB
namespace Go.Proofs.YtbfpgfopppfhoaaGreatDoor
open Go Go.Ye

theorem awake_eval : isTrue (callD Tb.tbd 100 12 [] ⟨.l, 0, 0⟩ fun v _ => .ok v) = true := by decide +kernel

theorem awake_spec : Go.Sx.PureSpec Tryz.prog 12 [] (fun _ => True) (fun v _ => v = .bool true) := Tb.spec_of awake_eval

end Go.Proofs.YtbfpgfopppfhoaaGreatDoor
