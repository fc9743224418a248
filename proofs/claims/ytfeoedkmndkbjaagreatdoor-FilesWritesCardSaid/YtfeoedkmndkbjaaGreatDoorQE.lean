/- Parts of the proof: NzA. -/
import Derived.Test.YtfeoedkmndkbjaaGreatDoorQB
import Derived.Test.YtfeoedkmndkbjaaGreatDoorQD
namespace Go.Proofs.YtfeoedkmndkbjaaGreatDoor
open Go Go.Sx

theorem mixed : Tryz.prog.follows .mixedOrders = true := by kernel_rfl

end Go.Proofs.YtfeoedkmndkbjaaGreatDoor
