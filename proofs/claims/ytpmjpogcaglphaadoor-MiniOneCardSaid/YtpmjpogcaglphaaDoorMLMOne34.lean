/- Texts of right trees; what Compile makes of a text: plainly. -/
import Derived.Test.YtpmjpogcaglphaaDoorMLMOne33
import Derived.Test.YtpmjpogcaglphaaDoorMLMOne30
set_option linter.unusedVariables false
set_option linter.unusedSimpArgs false
set_option linter.unnecessarySimpa false
namespace Go.Proofs.YtpmjpogcaglphaaDoor.A
open Go
set_option maxRecDepth 20000
theorem bA8 {n : Nd} (h1 : B5 n = true) (h2 : ar5 n = true) (h3 : dN n ≤ 1000) (hb : bd0 n ≤ 30) : bP9 (l7 0 n) := by
 intro he
 by_cases hl : (l7 0 n).length ≤ 200
 ·rw [az7 h1 hb hl]
  obtain ⟨a, b, c⟩ := au3 n h1 h2
  exact ⟨a, b, by show hN n ≤ 1000; omega⟩
 ·rw [v6, if_pos (by omega)] at he
  exact absurd he (by decide)
theorem bA9 {s : List UInt8} : ∀ e, (v6 s).2.2 = e → e ≠ 0 → am1 s = (none, e) := fun e h1 h2 => by
 rw [am1, if_pos (by rw [h1]; exact h2), h1]
theorem aT4 (x : Nd) (hg : okN x = true ∧ okS x = true) : (∃ e, e ≠ 0 ∧ av8 x = (none, e)) ∨ ∃ L R, az3 (d7 x b0).2.n (d7 x b0).1.1 (d7 x b0).2.s (d7 x b0).2.f 200 = some (L, R) ∧ (d7 x b0).2.n ≤ 1000 ∧ L.length ≤ 200 ∧ WfD L.length (T9 R) (ae7 (d7 x b0).1.2 L) ∧
  av8 x = (some (aa1 (T9 R) (ae7 (d7 x b0).1.2 L), O3 (T9 R) (ae7 (d7 x b0).1.2 L)), 0) := by
 by_cases hn : (d7 x b0).2.n > 1000
 ·exact .inl ⟨4, by decide, by rw [av8, if_pos hn]⟩
 ·cases hm : az3 (d7 x b0).2.n (d7 x b0).1.1 (d7 x b0).2.s (d7 x b0).2.f 200 with
  | none => exact .inl ⟨5, by decide, by rw [av8, if_neg hn, hm]⟩
  | some p =>
   obtain ⟨L, R⟩ := p
   have hL := au0 hm (by omega)
   exact .inr ⟨L, R, rfl, by omega, hL, bx5 hm (by omega), by rw [av8, if_neg hn, hm]⟩
end Go.Proofs.YtpmjpogcaglphaaDoor.A
