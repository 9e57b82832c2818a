/- Texts of right trees; what Compile makes of a text: plainly. -/
import Derived.Test.YtpmjpogcaglphaaDoorMLMLaws33
import Derived.Test.YtpmjpogcaglphaaDoorMLMLaws30
set_option linter.unusedVariables false
set_option linter.unusedSimpArgs false
set_option linter.unnecessarySimpa false
namespace Go.Proofs.YtpmjpogcaglphaaDoor.A
open Go
set_option maxRecDepth 20000
theorem bv3 {s : List UInt8} : ∀ e, (u4 s).2.2 = e → e ≠ 0 → U7 s = (none, e) := fun e h1 h2 => by
 rw [U7, if_pos (by rw [h1]; exact h2), h1]
theorem aQ0 (x : Nd) (hg : okN x = true ∧ okS x = true) : (∃ e, e ≠ 0 ∧ as6 x = (none, e)) ∨ ∃ L R, aw4 (d7 x b0).2.n (d7 x b0).1.1 (d7 x b0).2.s (d7 x b0).2.f 200 = some (L, R) ∧ (d7 x b0).2.n ≤ 1000 ∧ L.length ≤ 200 ∧ WfD L.length (R4 R) (ac6 (d7 x b0).1.2 L) ∧
  as6 x = (some (ar4 (R4 R) (ac6 (d7 x b0).1.2 L), Z1 (R4 R) (ac6 (d7 x b0).1.2 L)), 0) := by
 by_cases hn : (d7 x b0).2.n > 1000
 ·exact .inl ⟨4, by decide, by rw [as6, if_pos hn]⟩
 ·cases hm : aw4 (d7 x b0).2.n (d7 x b0).1.1 (d7 x b0).2.s (d7 x b0).2.f 200 with
  | none => exact .inl ⟨5, by decide, by rw [as6, if_neg hn, hm]⟩
  | some p =>
   obtain ⟨L, R⟩ := p
   have hL := aq8 hm (by omega)
   exact .inr ⟨L, R, rfl, by omega, hL, bs9 hm (by omega), by rw [as6, if_neg hn, hm]⟩
end Go.Proofs.YtpmjpogcaglphaaDoor.A
