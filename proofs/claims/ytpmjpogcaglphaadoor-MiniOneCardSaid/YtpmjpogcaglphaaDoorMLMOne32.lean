/- Sizes of trees, lengths of their texts: plainly. -/
import Derived.Test.YtpmjpogcaglphaaDoorMLMOne9
import Derived.Test.YtpmjpogcaglphaaDoorMLMOne31
set_option linter.unusedVariables false
set_option linter.unusedSimpArgs false
set_option linter.unnecessarySimpa false
namespace Go.Proofs.YtpmjpogcaglphaaDoor.A
open Go
set_option maxRecDepth 20000
mutual
def szN : Nd → Nat
 | .mk _ _ _ _ l => 1 + aT2 l
def aT2 : List Nd → Nat
 | [] => 0
 | x :: l => szN x + aT2 l
end
mutual
theorem bb0 : ∀ n : Nd, ar5 n = true → szN n < 5 ^ dN n
 | .mk k s lo hi l, h => by
  rw [ar5, Bool.and_eq_true, decide_eq_true_eq] at h
  have := aM1 l h.2
  rw [szN, dN, Nat.pow_succ]
  have : l.length * (5 ^ dNs l - 1) ≤ 4 * (5 ^ dNs l - 1) := Nat.mul_le_mul_right _ h.1
  have := Nat.one_le_pow (dNs l) 5 (by omega)
  omega
theorem aM1 : ∀ l : List Nd, W7 l = true → aT2 l ≤ l.length * (5 ^ dNs l - 1)
 | [], _ => by rw [aT2]; omega
 | x :: l, h => by
  rw [W7, Bool.and_eq_true] at h
  have h1 := bb0 x h.1
  have h2 := aM1 l h.2
  have h3 : 5 ^ dN x ≤ 5 ^ max (dN x) (dNs l) := Nat.pow_le_pow_right (by omega) (by omega)
  have h4 : 5 ^ dNs l ≤ 5 ^ max (dN x) (dNs l) := Nat.pow_le_pow_right (by omega) (by omega)
  rw [aT2, dNs, List.length_cons, Nat.succ_mul]
  have : l.length * (5 ^ dNs l - 1) ≤ l.length * (5 ^ max (dN x) (dNs l) - 1) := Nat.mul_le_mul_left _ (by omega)
  omega
end
mutual
theorem cG0 : ∀ n : Nd, bd n ≤ dN n ∧ bd5 n ≤ dN n
 | .mk k s lo hi l => by
  have := aT3 l
  rw [bd, bd5, dN]
  constructor <;> split <;> (try split) <;> omega
theorem aT3 : ∀ l : List Nd, bds l ≤ dNs l ∧ bQ7 l ≤ dNs l
 | [] => by rw [bds, bQ7, dNs]; omega
 | x :: l => by
  have h1 := cG0 x
  have h2 := aT3 l
  rw [bds, bQ7, dNs]
  omega
end
theorem cG1 (n : Nd) : bd0 n ≤ dN n := by
 obtain ⟨k, s, lo, hi, l⟩ := n
 have := aT3 l
 rw [bd0, dN]
 split <;> omega
theorem cj4 : ∀ q : Fin 31, (bw3 (q.1 + 1)).length ≤ 7 := by decide +kernel
theorem aM2 (k : Int) (sep : List UInt8) (hs : sep.length ≤ 1) : ∀ l : List Nd, (∀ x ∈ l, (l7 k x).length + 1 ≤ 9 * szN x) → l ≠ [] → (Lib.join (s9 k l) sep).length + 1 ≤ 9 * aT2 l
 | [], _, h => absurd rfl h
 | [x], h, _ => by
  rw [s9, s9, K9, aT2, aT2]
  exact h x (by simp)
 | x :: y :: l, h, _ => by
  have h1 := h x (by simp)
  have h2 := aM2 k sep hs (y :: l) (fun z hz => h z (List.mem_cons_of_mem _ hz)) (by simp)
  have e : s9 k (x :: y :: l) = l7 k x :: l7 k y :: s9 k l := by rw [s9, s9]
  have e2 : s9 k (y :: l) = l7 k y :: s9 k l := by rw [s9]
  have e3 : aT2 (x :: y :: l) = szN x + aT2 (y :: l) := by rw [aT2]
  rw [e2] at h2
  rw [e, C3, List.length_append, List.length_append, e3]
  omega
theorem bb1 : ∀ (n : Nd) (w : Int), B5 n = true → (l7 w n).length + 1 ≤ 9 * szN n
 | .mk k s lo hi l, w, hr => by
  obtain ⟨hx, hc⟩ := w8 hr
  have hkid : ∀ x ∈ l, (l7 k x).length + 1 ≤ 9 * szN x := fun x hm => by
   have : SizeOf.sizeOf x < SizeOf.sizeOf (Nd.mk k s lo hi l) := by
    have := List.sizeOf_lt_of_mem hm
    simp only [Nd.mk.sizeOf_spec]
    omega
   exact bb1 x k (hx x hm)
  rw [szN]
  rcases hc with ⟨rfl, rfl, rfl, rfl, h0, h1⟩ | ⟨hk, rfl, rfl, rfl, rfl⟩ | ⟨hk, rfl, rfl, rfl, y1, y2, r, rfl⟩ | ⟨hk, rfl, rfl, rfl, x, rfl⟩ | ⟨rfl, rfl, h0, h1, h2, x, rfl⟩
  ·rw [l7, if_pos rfl]
   have := cj4 ⟨s.toNat - 1, by omega⟩
   rw [show s.toNat - 1 + 1 = s.toNat by omega] at this
   omega
  ·rcases hk with rfl | rfl
   ·rw [l7, if_neg (by decide), if_pos rfl]; simp; omega
   ·rw [l7, if_neg (by decide), if_neg (by decide), if_pos rfl]; simp; omega
  ·rw [l7, if_neg (by omega), if_neg (by omega), if_neg (by omega), if_pos hk, bX1]
   have := aM2 k (if k = 5 then [124] else []) (by split <;> simp) _ hkid (by simp)
   split
   ·simp only [List.length_cons, List.length_append, List.length_nil]; omega
   ·omega
  ·have := hkid x (by simp)
   rw [l7, if_neg (by omega), if_neg (by omega), if_neg (by omega), if_neg (by omega), s9, aT2, aT2, List.headD_cons, List.length_append]
   have : (bj0 k 0 0).length ≤ 5 := by
    unfold bj0
    repeat' split
    all_goals simp
   omega
  ·have := hkid x (by simp)
   rw [l7, if_neg (by omega), if_neg (by omega), if_neg (by omega), if_neg (by omega), s9, aT2, aT2, List.headD_cons, List.length_append]
   have : (bj0 9 lo hi).length ≤ 5 := by
    unfold bj0
    repeat' split
    all_goals simp
   omega
termination_by n => SizeOf.sizeOf n
decreasing_by
 exact this
theorem cj5 {l : List Rw} (h : bk5 l = true) : B5 (aa7 l) = true ∧ ah5 (aa7 l) = true ∧ szN (aa7 l) ≤ 1000000 ∧ (∀ w, (l7 w (aa7 l)).length ≤ 9000000) ∧ bd0 (aa7 l) ≤ 8 ∧ bd (aa7 l) ≤ 8 ∧ bd5 (aa7 l) ≤ 8 := by
 obtain ⟨h1, h2, h3⟩ := aY0 h
 have h4 := bb0 _ h2
 have h5 : 5 ^ dN (aa7 l) ≤ 5 ^ 8 := Nat.pow_le_pow_right (by omega) h3
 have h6 := cG0 (aa7 l)
 have h7 := cG1 (aa7 l)
 have e : 5 ^ 8 = 390625 := by decide
 refine ⟨h1, aJ7 _ h2, by omega, fun w => ?_, by omega, by omega, by omega⟩
 have := bb1 (aa7 l) w h1
 omega
end Go.Proofs.YtpmjpogcaglphaaDoor.A
