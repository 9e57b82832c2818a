/- Texts of right trees; what Compile makes of a text: plainly. -/
import Derived.Test.YtpmjpogcaglphaaDoorMLMOther31
import Derived.Test.YtpmjpogcaglphaaDoorMLMOther35
import Derived.Test.YtpmjpogcaglphaaDoorMLMOther36
set_option linter.unusedVariables false
set_option linter.unusedSimpArgs false
set_option linter.unnecessarySimpa false
namespace Go.Proofs.YtpmjpogcaglphaaDoor.A
open Go
set_option maxRecDepth 20000
theorem bt9 {n : Nd} (h1 : D5 n = true) (h2 : ar2 n = true) (h3 : dN n ≤ 1000) (hb : bd0 n ≤ 30) : bt6 (j6 0 n) := by
 intro he
 by_cases hl : (j6 0 n).length ≤ 200
 ·rw [bc6 h1 hb hl]
  obtain ⟨a, b, c⟩ := aH8 n h1 h2
  exact ⟨a, b, by show hN n ≤ 1000; omega⟩
 ·rw [s9, if_pos (by omega)] at he
  exact absurd he (by decide)
theorem bu0 {s : List UInt8} : ∀ e, (s9 s).2.2 = e → e ≠ 0 → ar6 s = (none, e) := fun e h1 h2 => by
 rw [ar6, if_pos (by rw [h1]; exact h2), h1]
theorem aO6 (x : Nd) (hg : okN x = true ∧ okS x = true) : (∃ e, e ≠ 0 ∧ ar5 x = (none, e)) ∨ ∃ L R, aG5 (d8 x b0).2.n (d8 x b0).1.1 (d8 x b0).2.s (d8 x b0).2.f 200 = some (L, R) ∧ (d8 x b0).2.n ≤ 1000 ∧ L.length ≤ 200 ∧ WfD L.length (X3 R) (ah5 (d8 x b0).1.2 L) ∧
  ar5 x = (some (R5 (X3 R) (ah5 (d8 x b0).1.2 L), I5 (X3 R) (ah5 (d8 x b0).1.2 L)), 0) := by
 by_cases hn : (d8 x b0).2.n > 1000
 ·exact .inl ⟨4, by decide, by rw [ar5, if_pos hn]⟩
 ·cases hm : aG5 (d8 x b0).2.n (d8 x b0).1.1 (d8 x b0).2.s (d8 x b0).2.f 200 with
  | none => exact .inl ⟨5, by decide, by rw [ar5, if_neg hn, hm]⟩
  | some p =>
   obtain ⟨L, R⟩ := p
   have hL := aq2 hm (by omega)
   exact .inr ⟨L, R, rfl, by omega, hL, bq9 hm (by omega), by rw [ar5, if_neg hn, hm]⟩
theorem aO7 (s : List UInt8) (hg : bt6 s) : (∃ e, e ≠ 0 ∧ ar6 s = (none, e)) ∨ ∃ n N A, WfD n N A ∧ ar6 s = (some (R5 N A, I5 N A), 0) := by
 by_cases he : (s9 s).2.2 = 0
 ·have hc : ar6 s = ar5 (s9 s).1 := by rw [ar6, if_neg (fun h => h he)]
  rw [hc]
  obtain ⟨g1, g2, _⟩ := hg he
  rcases aO6 (s9 s).1 ⟨g1, g2⟩ with h | ⟨L, R, _, _, _, h1, h2⟩
  ·exact .inl h
  ·exact .inr ⟨_, _, _, h1, h2⟩
 ·exact .inl ⟨_, he, bu0 _ rfl he⟩
theorem bJ3 {n N A} (h : WfD n N A) : bs2 N A N (A.map (!·)) = some [] := by
 have hf := aV2 h.okD
 have hk := (bN5 h.okD hf).2
 have h0 : A.getD 0 false ≠ (A.map (!·)).getD 0 false := by
  rw [U3 h.okD.l]
  cases A.getD 0 false <;> decide
 cases hm : bs2 N A N (A.map (!·)) with
 | none =>
  rw [hm] at hk
  exact absurd (hk [] (fun z hz => by cases hz)) h0
 | some w =>
  rw [hm] at hk
  cases w with
  | nil => rfl
  | cons z w =>
   have hc : C5 ([] : List Nat) < C5 (z :: w) := by
    by_cases e : C5 ([] : List Nat) = C5 (z :: w)
    ·have := aH9 _ [] (z :: w) rfl (fun z hz => by cases hz) hk.1 e
     cases this
    ·have : C5 ([] : List Nat) = 0 := rfl
     omega
   exact absurd (hk.2.2 [] (fun z hz => by cases hz) hc) h0
end Go.Proofs.YtpmjpogcaglphaaDoor.A
