/- The table of contracts for the closed laws of least machines. -/
import Derived.Test.YtpmjpogcaglphaaDoorMLMLaws15
import Derived.Test.YtpmjpogcaglphaaDoorMLMLaws46
set_option linter.unusedVariables false
set_option linter.unusedSimpArgs false
set_option linter.unnecessarySimpa false
namespace Go.Proofs.YtpmjpogcaglphaaDoor.A
open Go
def cF7 (args : List AV) (r : AV) : Prop := args = [] ∧ r = .bool true
theorem ca6 : Q5 cF7 := by rintro args r r' ⟨_, rfl⟩ ⟨_, rfl⟩; rfl
theorem ca7 (args r) (h : cF7 args r) : Ok Tryd.prog 14 args r := by obtain ⟨rfl, rfl⟩ := h; exact bw7
end Go.Proofs.YtpmjpogcaglphaaDoor.A
