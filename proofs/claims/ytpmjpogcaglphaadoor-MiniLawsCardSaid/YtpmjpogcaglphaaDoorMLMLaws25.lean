/- law7.Make: machines of one way, of numbers. -/
import Derived.Test.YtpmjpogcaglphaaDoorMLMLaws7
set_option linter.unusedVariables false
set_option linter.unusedSimpArgs false
set_option linter.unnecessarySimpa false
namespace Go.Proofs.YtpmjpogcaglphaaDoor.A
open Go
set_option maxRecDepth 20000
theorem HS.of {e sz D o nx j g n cs} (hj : j < nx) (h : o (j, D) = some (.row ⟨e, sz, g, false, true, cs⟩)) (hl : cs.length = n * sz) : HS e sz D o nx (.ref (j, D) g 0 n) n cs := .inr ⟨j, g, rfl, hj, h, hl⟩
end Go.Proofs.YtpmjpogcaglphaaDoor.A
