/- Compile's machine takes the expression's words. -/
import Derived.Test.YtpmjpogcaglphaaDoorMLMOne38
import Derived.Test.YtpmjpogcaglphaaDoorMLMOne34
import Derived.Test.YtpmjpogcaglphaaDoorMLMOne36
set_option linter.unusedVariables false
set_option linter.unusedSimpArgs false
set_option linter.unnecessarySimpa false
namespace Go.Proofs.YtpmjpogcaglphaaDoor.A
open Go
set_option maxRecDepth 20000
theorem bS5 {x : Nd} (h1 : B5 x = true) (g : okN x = true ∧ okS x = true) {L : List (List Bool)} {R : List Nat} (hm : az3 (d7 x b0).2.n (d7 x b0).1.1 (d7 x b0).2.s (d7 x b0).2.f 200 = some (L, R)) (hn : (d7 x b0).2.n ≤ 1000) {w : List Int} (hw : ab3 w) :
  ay6 L.length (T9 R) (ae7 (d7 x b0).1.2 L) w = T8 x w := by
 obtain ⟨hwf, _⟩ := aY1 g.1 g.2 hn
 have hrm := cG2 h1 (show (d7 x ⟨0, [], []⟩).2.n ≤ 1000 from hn) hwf w
 have hrb : cy9 (d7 x b0).2.n (d7 x b0).1.1 (d7 x b0).1.2 (d7 x b0).2.s (d7 x b0).2.f w = T8 x w := by
  classical
  rw [Bool.eq_iff_iff, T8, decide_eq_true_eq]
  exact hrm
 obtain ⟨k, g1, g2, g3⟩ := cD3 (F := (d7 x b0).1.2) hm w hw
 rw [← hrb]
 unfold ay6
 rw [g1, if_pos (by omega), Int.toNat_natCast, g3]
theorem bC7 {x : Nd} (h1 : B5 x = true) (hb : bd0 x ≤ 30) (he : (v6 (l7 0 x)).2.2 = 0) : v6 (l7 0 x) = (x, 0, 0) := by
 by_cases hl : (l7 0 x).length ≤ 200
 ·exact az7 h1 hb hl
 ·rw [v6, if_pos (by omega)] at he
  exact absurd he (by decide)
theorem bC8 {x : Nd} (h1 : B5 x = true) (h2 : ar5 x = true) (hb : bd0 x ≤ 30) : (∃ e, e ≠ 0 ∧ am1 (l7 0 x) = (none, e)) ∨ ∃ n N A, WfD n N A ∧ n ≤ 200 ∧ am1 (l7 0 x) = (some (aa1 N A, O3 N A), 0) ∧ ∀ w, ab3 w → ay6 n N A w = T8 x w := by
 by_cases he : (v6 (l7 0 x)).2.2 = 0
 ·have hp := bC7 h1 hb he
  have hc : am1 (l7 0 x) = av8 x := by rw [am1, if_neg (fun h => h he), hp]
  rw [hc]
  obtain ⟨a, b, c⟩ := au3 x h1 h2
  rcases aT4 x ⟨a, b⟩ with h | ⟨L, R, hm, hn, hL, hwf, e⟩
  ·exact .inl h
  ·exact .inr ⟨_, _, _, hwf, hL, e, fun w hw => bS5 h1 ⟨a, b⟩ hm hn hw⟩
 ·exact .inl ⟨_, he, bA9 _ rfl he⟩
end Go.Proofs.YtpmjpogcaglphaaDoor.A
