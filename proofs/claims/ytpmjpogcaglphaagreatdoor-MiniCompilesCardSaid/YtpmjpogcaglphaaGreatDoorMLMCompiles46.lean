/- law8's 'known' answers true: one run by the kernel. -/
import Derived.Test.YtpmjpogcaglphaaGreatDoorMLMCompiles16
import Derived.Test.YtpmjpogcaglphaaGreatDoorMLMCompiles17
set_option linter.unusedVariables false
set_option linter.unusedSimpArgs false
set_option linter.unnecessarySimpa false
namespace Go.Proofs.YtpmjpogcaglphaaGreatDoor.A
open Go
def dE8 (f : FuncId) : Mode := if f = 90 then .ext true else if f ∈ [91,97,100,104,46,71,72,47,70,15,16,11,56,79,33,34,35,68,69] then .pure true else if f ∈ [44,22,50,23,24,54,80,81,17,9,37,38] then .pure false else .raw false
def dE9 : FuncId→List AV→Option AV := fun f args=>if f = 90 then (match args with | [.str s,.int .u8 c]=>some (.int .i64 (Lib.indexByte s c.toNat.toUInt8)) | _=>none) else none
noncomputable def E8 : Env := { P := Tryz.prog,mode := dE8,ext := dE9 }
theorem cI6 : s6 Tryz.prog dE9 := by
 intro g args r h
 unfold dE9 at h
 split at h
 ·rename_i e
  subst e
  split at h
  ·rename_i s c
   injection h with h
   subst h
   exact cq6 _ _ ⟨s,c,rfl,rfl⟩
  ·cases h
 ·cases h
theorem bA6 : (X0 E8 60).1 4 [] = some (.bool true) := by kernel_rfl
theorem bW1 : Ok Tryz.prog 4 [] (.bool true) := aN2 (E := E8) cI6 mixed bA6
end Go.Proofs.YtpmjpogcaglphaaGreatDoor.A
