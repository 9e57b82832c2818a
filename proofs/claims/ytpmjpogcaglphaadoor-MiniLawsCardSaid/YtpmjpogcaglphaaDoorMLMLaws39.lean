/- Compile's machine takes the expression's words. -/
import Derived.Test.YtpmjpogcaglphaaDoorMLMLaws38
import Derived.Test.YtpmjpogcaglphaaDoorMLMLaws34
import Derived.Test.YtpmjpogcaglphaaDoorMLMLaws36
set_option linter.unusedVariables false
set_option linter.unusedSimpArgs false
set_option linter.unnecessarySimpa false
namespace Go.Proofs.YtpmjpogcaglphaaDoor.A
open Go
set_option maxRecDepth 20000
theorem bJ0 {x : Nd} (h1 : B0 x = true) (g : okN x = true ∧ okS x = true) {L : List (List Bool)} {R : List Nat} (hm : aw4 (d7 x b0).2.n (d7 x b0).1.1 (d7 x b0).2.s (d7 x b0).2.f 200 = some (L, R)) (hn : (d7 x b0).2.n ≤ 1000) {w : List Int} (hw : aP5 w) :
  cf4 L.length (R4 R) (ac6 (d7 x b0).1.2 L) w = ai3 x w := by
 obtain ⟨hwf, _⟩ := aU7 g.1 g.2 hn
 have hrm := cv1 h1 (show (d7 x ⟨0, [], []⟩).2.n ≤ 1000 from hn) hwf w
 have hrb : cn7 (d7 x b0).2.n (d7 x b0).1.1 (d7 x b0).1.2 (d7 x b0).2.s (d7 x b0).2.f w = ai3 x w := by
  classical
  rw [Bool.eq_iff_iff, ai3, decide_eq_true_eq]
  exact hrm
 obtain ⟨k, g1, g2, g3⟩ := cr9 (F := (d7 x b0).1.2) hm w hw
 rw [← hrb]
 unfold cf4
 rw [g1, if_pos (by omega), Int.toNat_natCast, g3]
end Go.Proofs.YtpmjpogcaglphaaDoor.A
