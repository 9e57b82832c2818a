/- What all texts of a seat share. -/
import Derived.Test.YtpmjpogcaglphaaGreatDoorProg
import Derived.IntWalk
import Derived.Test.YtpmjpogcaglphaaGreatDoorMLMCompiles2
set_option linter.unusedVariables false
set_option linter.unusedSimpArgs false
set_option linter.unnecessarySimpa false
namespace Go.Proofs.YtpmjpogcaglphaaGreatDoor.A
open Go
theorem mixed : Tryz.prog.follows .mixedOrders = true := by kernel_rfl
end Go.Proofs.YtpmjpogcaglphaaGreatDoor.A
