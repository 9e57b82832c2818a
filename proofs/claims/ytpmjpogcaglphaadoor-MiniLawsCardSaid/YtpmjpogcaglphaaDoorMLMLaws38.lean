/- The document's matching: sets of places; one, both. -/
import Derived.Test.YtpmjpogcaglphaaDoorMLMLaws37
import Derived.Test.YtpmjpogcaglphaaDoorMLMLaws35
set_option linter.unusedVariables false
set_option linter.unusedSimpArgs false
set_option linter.unnecessarySimpa false
namespace Go.Proofs.YtpmjpogcaglphaaDoor.A
open Go
set_option maxRecDepth 20000
set_option maxRecDepth 20000
theorem Iter.le {R : Nat → Nat → Prop} {n : Nat} (hR : ∀ i j, R i j → i ≤ n → j ≤ n) : ∀ {m i j}, Iter R m i j → i ≤ n → j ≤ n
 | 0, i, j, h, hi => by obtain rfl : i = j := h; exact hi
 | m + 1, i, j, ⟨k, h1, h2⟩, hi => Iter.le hR h2 (hR i k h1 hi)
set_option maxRecDepth 20000
open Classical in
noncomputable def ai3 (n : Nd) (w : List Int) : Bool := decide (Mt w n 0 w.length)
end Go.Proofs.YtpmjpogcaglphaaDoor.A
