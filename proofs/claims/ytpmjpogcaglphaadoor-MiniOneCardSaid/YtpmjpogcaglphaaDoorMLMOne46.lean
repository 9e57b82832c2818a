/- The table of contracts for the closed laws of least machines. -/
import Derived.Test.YtpmjpogcaglphaaDoorMLMOne15
import Derived.Test.YtpmjpogcaglphaaDoorMLMOne45
set_option linter.unusedVariables false
set_option linter.unusedSimpArgs false
set_option linter.unnecessarySimpa false
namespace Go.Proofs.YtpmjpogcaglphaaDoor.A
open Go
def cI6 (args : List AV) (r : AV) : Prop := args = [] ∧ r = .bool true
theorem ck8 : K5 cI6 := by rintro args r r' ⟨_, rfl⟩ ⟨_, rfl⟩; rfl
theorem ck9 (args r) (h : cI6 args r) : Ok Tryd.prog 14 args r := by obtain ⟨rfl, rfl⟩ := h; exact bD6
end Go.Proofs.YtpmjpogcaglphaaDoor.A
