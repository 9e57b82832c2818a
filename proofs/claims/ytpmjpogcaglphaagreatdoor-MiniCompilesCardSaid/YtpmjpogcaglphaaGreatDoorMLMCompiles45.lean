/- Few, One: relations of their contracts. -/
import Derived.Test.YtpmjpogcaglphaaGreatDoorMLMCompiles9
import Derived.Test.YtpmjpogcaglphaaGreatDoorMLMCompiles44
set_option linter.unusedVariables false
set_option linter.unusedSimpArgs false
set_option linter.unnecessarySimpa false
namespace Go.Proofs.YtpmjpogcaglphaaGreatDoor.A
open Go
set_option maxRecDepth 20000
def ds1 (args : List AV) (r : AV) : Prop := ∃ l,args = [slR l]∧r = .bool (cq2 l)
theorem cI2 : N2 ds1 := by
 rintro args r r' ⟨x,rfl,rfl⟩ ⟨x',h,rfl⟩
 simp only[List.cons.injEq,AV.sl.injEq,and_true] at h
 rw[am0 h.2]
theorem cI3 (args r) (h : ds1 args r) : Ok Tryz.prog 5 args r := by obtain ⟨x,rfl,rfl⟩ := h;exact cy1 x
def ds2 (args : List AV) (r : AV) : Prop := ∃ l,args = [slR l]∧r = j5 (ao7 l)
theorem cI4 : N2 ds2 := by
 rintro args r r' ⟨x,rfl,rfl⟩ ⟨x',h,rfl⟩
 simp only[List.cons.injEq,AV.sl.injEq,and_true] at h
 rw[am0 h.2]
theorem cI5 (args r) (h : ds2 args r) : Ok Tryz.prog 6 args r := by obtain ⟨x,rfl,rfl⟩ := h;exact cV7 x
end Go.Proofs.YtpmjpogcaglphaaGreatDoor.A
