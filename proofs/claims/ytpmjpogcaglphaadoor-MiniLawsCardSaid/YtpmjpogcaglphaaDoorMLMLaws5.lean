/- What all texts of a seat share. -/
import Derived.Test.YtpmjpogcaglphaaDoorProg
import Derived.IntWalk
import Derived.Test.YtpmjpogcaglphaaDoorMLMLaws2
set_option linter.unusedVariables false
set_option linter.unusedSimpArgs false
set_option linter.unnecessarySimpa false
namespace Go.Proofs.YtpmjpogcaglphaaDoor.A
open Go
theorem mixed : Tryd.prog.follows .mixedOrders = true := by kernel_rfl
end Go.Proofs.YtpmjpogcaglphaaDoor.A
