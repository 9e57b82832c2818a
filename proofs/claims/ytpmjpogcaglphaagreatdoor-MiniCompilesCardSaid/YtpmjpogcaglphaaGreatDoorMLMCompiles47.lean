/- The table of contracts for the closed laws of least machines. -/
import Derived.Test.YtpmjpogcaglphaaGreatDoorMLMCompiles46
import Derived.Test.YtpmjpogcaglphaaGreatDoorMLMCompiles19
set_option linter.unusedVariables false
set_option linter.unusedSimpArgs false
set_option linter.unnecessarySimpa false
namespace Go.Proofs.YtpmjpogcaglphaaGreatDoor.A
open Go
def ds3 (args : List AV) (r : AV) : Prop := args = []∧r = .bool true
theorem cI7 : N2 ds3 := by rintro args r r' ⟨_,rfl⟩ ⟨_,rfl⟩;rfl
theorem cI8 (args r) (h : ds3 args r) : Ok Tryz.prog 4 args r := by obtain ⟨rfl,rfl⟩ := h;exact bW1
end Go.Proofs.YtpmjpogcaglphaaGreatDoor.A
