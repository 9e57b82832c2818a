/- A right, slim tree may be built. -/
import Derived.Test.YtpmjpogcaglphaaDoorMLMLaws32
import Derived.Test.YtpmjpogcaglphaaDoorMLMLaws11
set_option linter.unusedVariables false
set_option linter.unusedSimpArgs false
set_option linter.unnecessarySimpa false
namespace Go.Proofs.YtpmjpogcaglphaaDoor.A
open Go
set_option maxRecDepth 20000
mutual
theorem ar1 : ∀ x : Nd, B0 x = true → as3 x = true → okN x = true ∧ okS x = true ∧ hN x = dN x
 | .mk k s lo hi l, hr, hs => by
  obtain ⟨hx, hc⟩ := y5 hr
  rw [as3, Bool.and_eq_true, decide_eq_true_eq] at hs
  obtain ⟨h1, h2, h3⟩ := aw9 l hx hs.2
  rw [okN, okS, hN, dN, h1, h2, h3, Bool.true_and, Bool.true_and]
  refine ⟨?_, ?_, rfl⟩
  ·rcases hc with ⟨hk, _⟩ | ⟨hk, _⟩ | ⟨hk, _, _, _, x, y, r, e⟩ | ⟨hk, _, _, _, x, e⟩ | ⟨hk, _, b0, b1, b2, x, e⟩
   ·rw [if_neg (by omega), if_neg (by omega)]
   ·rw [if_neg (by omega), if_neg (by omega)]
   ·rw [if_pos (by omega), decide_eq_true_eq]
    rw [e, List.length_cons] at hs ⊢
    omega
   ·rw [if_pos (by omega), decide_eq_true_eq]
    rw [e, List.length_singleton]
    omega
   ·rw [if_neg (by omega), if_pos hk, decide_eq_true_eq]
    rw [e, List.length_singleton]
    omega
  ·rcases hc with ⟨hk, _, _, _, b1, b2⟩ | ⟨hk, _⟩ | ⟨hk, _⟩ | ⟨hk, _⟩ | ⟨hk, _⟩
   ·rw [if_pos hk, decide_eq_true_eq]; exact ⟨b1, b2⟩
   ·rw [if_neg (by omega)]
   ·rw [if_neg (by omega)]
   ·rw [if_neg (by omega)]
   ·rw [if_neg (by omega)]
theorem aw9 : ∀ l : List Nd, (∀ x ∈ l, B0 x = true) → U4 l = true → as4 l = true ∧ bU1 l = true ∧ hNs l = dNs l
 | [], _, _ => by rw [as4, bU1, hNs, dNs]; exact ⟨rfl, rfl, rfl⟩
 | x :: l, hx, hs => by
  rw [U4, Bool.and_eq_true] at hs
  obtain ⟨h1, h2, h3⟩ := ar1 x (hx x List.mem_cons_self) hs.1
  obtain ⟨g1, g2, g3⟩ := aw9 l (fun y hy => hx y (List.mem_cons_of_mem _ hy)) hs.2
  rw [as4, bU1, hNs, dNs, h1, h2, h3, g1, g2, g3]
  exact ⟨rfl, rfl, rfl⟩
end
end Go.Proofs.YtpmjpogcaglphaaDoor.A
