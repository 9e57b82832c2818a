/- Sizes of trees, lengths of their texts: plainly. -/
import Derived.Test.YtpmjpogcaglphaaDoorMLMOther9
import Derived.Test.YtpmjpogcaglphaaDoorMLMOther33
set_option linter.unusedVariables false
set_option linter.unusedSimpArgs false
set_option linter.unnecessarySimpa false
namespace Go.Proofs.YtpmjpogcaglphaaDoor.A
open Go
set_option maxRecDepth 20000
mutual
def szN : Nd → Nat
 | .mk _ _ _ _ l => 1 + aO4 l
def aO4 : List Nd → Nat
 | [] => 0
 | x :: l => szN x + aO4 l
end
mutual
theorem aV7 : ∀ n : Nd, ar2 n = true → szN n < 5 ^ dN n
 | .mk k s lo hi l, h => by
  rw [ar2, Bool.and_eq_true, decide_eq_true_eq] at h
  have := aH6 l h.2
  rw [szN, dN, Nat.pow_succ]
  have : l.length * (5 ^ dNs l - 1) ≤ 4 * (5 ^ dNs l - 1) := Nat.mul_le_mul_right _ h.1
  have := Nat.one_le_pow (dNs l) 5 (by omega)
  omega
theorem aH6 : ∀ l : List Nd, T6 l = true → aO4 l ≤ l.length * (5 ^ dNs l - 1)
 | [], _ => by rw [aO4]; omega
 | x :: l, h => by
  rw [T6, Bool.and_eq_true] at h
  have h1 := aV7 x h.1
  have h2 := aH6 l h.2
  have h3 : 5 ^ dN x ≤ 5 ^ max (dN x) (dNs l) := Nat.pow_le_pow_right (by omega) (by omega)
  have h4 : 5 ^ dNs l ≤ 5 ^ max (dN x) (dNs l) := Nat.pow_le_pow_right (by omega) (by omega)
  rw [aO4, dNs, List.length_cons, Nat.succ_mul]
  have : l.length * (5 ^ dNs l - 1) ≤ l.length * (5 ^ max (dN x) (dNs l) - 1) := Nat.mul_le_mul_left _ (by omega)
  omega
end
mutual
theorem cy5 : ∀ n : Nd, bd n ≤ dN n ∧ bd5 n ≤ dN n
 | .mk k s lo hi l => by
  have := aO5 l
  rw [bd, bd5, dN]
  constructor <;> split <;> (try split) <;> omega
theorem aO5 : ∀ l : List Nd, bds l ≤ dNs l ∧ bI9 l ≤ dNs l
 | [] => by rw [bds, bI9, dNs]; omega
 | x :: l => by
  have h1 := cy5 x
  have h2 := aO5 l
  rw [bds, bI9, dNs]
  omega
end
theorem cy6 (n : Nd) : bd0 n ≤ dN n := by
 obtain ⟨k, s, lo, hi, l⟩ := n
 have := aO5 l
 rw [bd0, dN]
 split <;> omega
theorem cb4 : ∀ q : Fin 31, (bp8 (q.1 + 1)).length ≤ 7 := by decide +kernel
theorem aH7 (k : Int) (sep : List UInt8) (hs : sep.length ≤ 1) : ∀ l : List Nd, (∀ x ∈ l, (j6 k x).length + 1 ≤ 9 * szN x) → l ≠ [] → (Lib.join (p9 k l) sep).length + 1 ≤ 9 * aO4 l
 | [], _, h => absurd rfl h
 | [x], h, _ => by
  rw [p9, p9, J6, aO4, aO4]
  exact h x (by simp)
 | x :: y :: l, h, _ => by
  have h1 := h x (by simp)
  have h2 := aH7 k sep hs (y :: l) (fun z hz => h z (List.mem_cons_of_mem _ hz)) (by simp)
  have e : p9 k (x :: y :: l) = j6 k x :: j6 k y :: p9 k l := by rw [p9, p9]
  have e2 : p9 k (y :: l) = j6 k y :: p9 k l := by rw [p9]
  have e3 : aO4 (x :: y :: l) = szN x + aO4 (y :: l) := by rw [aO4]
  rw [e2] at h2
  rw [e, B0, List.length_append, List.length_append, e3]
  omega
theorem aV8 : ∀ (n : Nd) (w : Int), D5 n = true → (j6 w n).length + 1 ≤ 9 * szN n
 | .mk k s lo hi l, w, hr => by
  obtain ⟨hx, hc⟩ := x8 hr
  have hkid : ∀ x ∈ l, (j6 k x).length + 1 ≤ 9 * szN x := fun x hm => by
   have : SizeOf.sizeOf x < SizeOf.sizeOf (Nd.mk k s lo hi l) := by
    have := List.sizeOf_lt_of_mem hm
    simp only [Nd.mk.sizeOf_spec]
    omega
   exact aV8 x k (hx x hm)
  rw [szN]
  rcases hc with ⟨rfl, rfl, rfl, rfl, h0, h1⟩ | ⟨hk, rfl, rfl, rfl, rfl⟩ | ⟨hk, rfl, rfl, rfl, y1, y2, r, rfl⟩ | ⟨hk, rfl, rfl, rfl, x, rfl⟩ | ⟨rfl, rfl, h0, h1, h2, x, rfl⟩
  ·rw [j6, if_pos rfl]
   have := cb4 ⟨s.toNat - 1, by omega⟩
   rw [show s.toNat - 1 + 1 = s.toNat by omega] at this
   omega
  ·rcases hk with rfl | rfl
   ·rw [j6, if_neg (by decide), if_pos rfl]; simp; omega
   ·rw [j6, if_neg (by decide), if_neg (by decide), if_pos rfl]; simp; omega
  ·rw [j6, if_neg (by omega), if_neg (by omega), if_neg (by omega), if_pos hk, bO2]
   have := aH7 k (if k = 5 then [124] else []) (by split <;> simp) _ hkid (by simp)
   split
   ·simp only [List.length_cons, List.length_append, List.length_nil]; omega
   ·omega
  ·have := hkid x (by simp)
   rw [j6, if_neg (by omega), if_neg (by omega), if_neg (by omega), if_neg (by omega), p9, aO4, aO4, List.headD_cons, List.length_append]
   have : (bc4 k 0 0).length ≤ 5 := by
    unfold bc4
    repeat' split
    all_goals simp
   omega
  ·have := hkid x (by simp)
   rw [j6, if_neg (by omega), if_neg (by omega), if_neg (by omega), if_neg (by omega), p9, aO4, aO4, List.headD_cons, List.length_append]
   have : (bc4 9 lo hi).length ≤ 5 := by
    unfold bc4
    repeat' split
    all_goals simp
   omega
termination_by n => SizeOf.sizeOf n
decreasing_by
 exact this
theorem cb5 {l : List Rw} (h : bN0 l = true) : D5 (an8 l) = true ∧ ay1 (an8 l) = true ∧ szN (an8 l) ≤ 1000000 ∧ (∀ w, (j6 w (an8 l)).length ≤ 9000000) ∧ bd0 (an8 l) ≤ 8 ∧ bd (an8 l) ≤ 8 ∧ bd5 (an8 l) ≤ 8 := by
 obtain ⟨h1, h2, h3⟩ := aT1 h
 have h4 := aV7 _ h2
 have h5 : 5 ^ dN (an8 l) ≤ 5 ^ 8 := Nat.pow_le_pow_right (by omega) h3
 have h6 := cy5 (an8 l)
 have h7 := cy6 (an8 l)
 have e : 5 ^ 8 = 390625 := by decide
 refine ⟨h1, aE9 _ h2, by omega, fun w => ?_, by omega, by omega, by omega⟩
 have := aV8 (an8 l) w h1
 omega
end Go.Proofs.YtpmjpogcaglphaaDoor.A
