/- The table of contracts for the closed laws of least machines. -/
import Derived.Test.YtpmjpogcaglphaaDoorMLMOther41
import Derived.Test.YtpmjpogcaglphaaDoorMLMOther15
set_option linter.unusedVariables false
set_option linter.unusedSimpArgs false
set_option linter.unnecessarySimpa false
namespace Go.Proofs.YtpmjpogcaglphaaDoor.A
open Go
def cj4 (args : List AV) (r : AV) : Prop := args = [] ∧ r = .bool true
theorem cc1 : N1 cj4 := by rintro args r r' ⟨_, rfl⟩ ⟨_, rfl⟩; rfl
theorem cc2 (args r) (h : cj4 args r) : Ok Tryd.prog 14 args r := by obtain ⟨rfl, rfl⟩ := h; exact bu6
end Go.Proofs.YtpmjpogcaglphaaDoor.A
