/- law8's 'known' answers true: one run by the kernel. -/
import Derived.Test.YtpmjpogcaglphaaDoorMLMLaws13
import Derived.Test.YtpmjpogcaglphaaDoorMLMLaws12
set_option linter.unusedVariables false
set_option linter.unusedSimpArgs false
set_option linter.unnecessarySimpa false
namespace Go.Proofs.YtpmjpogcaglphaaDoor.A
open Go
def cS7 (f : FuncId) : Mode := if f = 98 then .ext true else if f ∈ [99, 101, 102, 103, 71, 87, 88, 72, 86, 19, 27, 17, 81, 95, 51, 52, 53, 61, 62] then .pure true else if f ∈ [69, 45, 75, 46, 47, 79, 96, 97, 16, 24, 40, 41] then .pure false else .raw false
def cS8 : FuncId → List AV → Option AV := fun f args => if f = 98 then (match args with | [.str s, .int .u8 c] => some (.int .i64 (Lib.indexByte s c.toNat.toUInt8)) | _ => none) else none
noncomputable def E8 : Env := { P := Tryd.prog, mode := cS7, ext := cS8 }
theorem ca5 : m7 Tryd.prog cS8 := by
 intro g args r h
 unfold cS8 at h
 split at h
 ·rename_i e
  subst e
  split at h
  ·rename_i s c
   injection h with h
   subst h
   exact bL6 _ _ ⟨s, c, rfl, rfl⟩
  ·cases h
 ·cases h
theorem bf9 : (O5 E8 60).1 14 [] = some (.bool true) := by kernel_rfl
theorem bw7 : Ok Tryd.prog 14 [] (.bool true) := aS8 (E := E8) ca5 mixed bf9
end Go.Proofs.YtpmjpogcaglphaaDoor.A
