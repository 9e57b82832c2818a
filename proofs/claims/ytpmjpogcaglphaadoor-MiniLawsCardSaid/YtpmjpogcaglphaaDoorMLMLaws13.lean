/- What all laws' rows share: arguments that read are data. -/
import Derived.Test.YtpmjpogcaglphaaDoorRows
import Derived.Test.YtpmjpogcaglphaaDoorMLMLaws7
set_option linter.unusedVariables false
set_option linter.unusedSimpArgs false
set_option linter.unnecessarySimpa false
namespace Go.Proofs.YtpmjpogcaglphaaDoor.A
open Go
theorem aw2 {P : Program} {d : Nat} {t : TypeId} {xs : List AV} (hu : P.underlying t = some (.int .i64)) (h : Shaped P d t xs) : ∃ n, xs = [.int .i64 n] := by
 cases d with
 | zero => exact h.elim
 | succ d =>
  unfold Shaped at h
  rw [hu] at h
  obtain ⟨n, e, _⟩ := h
  exact ⟨n, e⟩
end Go.Proofs.YtpmjpogcaglphaaDoor.A
namespace Go.Proofs.YtpmjpogcaglphaaDoor
open Go Go.Proofs.YtpmjpogcaglphaaDoor.A
theorem Tryd.own : ownKnob Tryd.prog.godebug = none := by kernel_rfl
theorem Tryd.laidOut : laidOutB Tryd.prog = true := by kernel_rfl
end Go.Proofs.YtpmjpogcaglphaaDoor
namespace Go.Proofs.YtpmjpogcaglphaaDoor.A
open Go
set_option maxRecDepth 20000
noncomputable def fieldsOf (t : TypeId) : Array Field := match Tryd.prog.underlying t with | some (.struct fs) => fs | _ => #[]
end Go.Proofs.YtpmjpogcaglphaaDoor.A
