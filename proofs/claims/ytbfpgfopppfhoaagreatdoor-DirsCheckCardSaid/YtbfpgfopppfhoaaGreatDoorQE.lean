/- Parts of the proof: NzA. -/
import Derived.Test.YtbfpgfopppfhoaaGreatDoorQB
import Derived.Test.YtbfpgfopppfhoaaGreatDoorQD
namespace Go.Proofs.YtbfpgfopppfhoaaGreatDoor
open Go Go.Sx

theorem mixed : Tryz.prog.follows .mixedOrders = true := by kernel_rfl

end Go.Proofs.YtbfpgfopppfhoaaGreatDoor
