/- Sizes of trees, lengths of their texts: plainly. -/
import Derived.Test.YtpmjpogcaglphaaDoorMLMLaws9
import Derived.Test.YtpmjpogcaglphaaDoorMLMLaws31
set_option linter.unusedVariables false
set_option linter.unusedSimpArgs false
set_option linter.unnecessarySimpa false
namespace Go.Proofs.YtpmjpogcaglphaaDoor.A
open Go
set_option maxRecDepth 20000
mutual
def szN : Nd → Nat
 | .mk _ _ _ _ l => 1 + aP8 l
def aP8 : List Nd → Nat
 | [] => 0
 | x :: l => szN x + aP8 l
end
mutual
theorem aX6 : ∀ n : Nd, as3 n = true → szN n < 5 ^ dN n
 | .mk k s lo hi l, h => by
  rw [as3, Bool.and_eq_true, decide_eq_true_eq] at h
  have := aJ3 l h.2
  rw [szN, dN, Nat.pow_succ]
  have : l.length * (5 ^ dNs l - 1) ≤ 4 * (5 ^ dNs l - 1) := Nat.mul_le_mul_right _ h.1
  have := Nat.one_le_pow (dNs l) 5 (by omega)
  omega
theorem aJ3 : ∀ l : List Nd, U4 l = true → aP8 l ≤ l.length * (5 ^ dNs l - 1)
 | [], _ => by rw [aP8]; omega
 | x :: l, h => by
  rw [U4, Bool.and_eq_true] at h
  have h1 := aX6 x h.1
  have h2 := aJ3 l h.2
  have h3 : 5 ^ dN x ≤ 5 ^ max (dN x) (dNs l) := Nat.pow_le_pow_right (by omega) (by omega)
  have h4 : 5 ^ dNs l ≤ 5 ^ max (dN x) (dNs l) := Nat.pow_le_pow_right (by omega) (by omega)
  rw [aP8, dNs, List.length_cons, Nat.succ_mul]
  have : l.length * (5 ^ dNs l - 1) ≤ l.length * (5 ^ max (dN x) (dNs l) - 1) := Nat.mul_le_mul_left _ (by omega)
  omega
end
mutual
theorem cu6 : ∀ n : Nd, bd n ≤ dN n ∧ bd5 n ≤ dN n
 | .mk k s lo hi l => by
  have := aP9 l
  rw [bd, bd5, dN]
  constructor <;> split <;> (try split) <;> omega
theorem aP9 : ∀ l : List Nd, bds l ≤ dNs l ∧ bI5 l ≤ dNs l
 | [] => by rw [bds, bI5, dNs]; omega
 | x :: l => by
  have h1 := cu6 x
  have h2 := aP9 l
  rw [bds, bI5, dNs]
  omega
end
theorem cu7 (n : Nd) : bd0 n ≤ dN n := by
 obtain ⟨k, s, lo, hi, l⟩ := n
 have := aP9 l
 rw [bd0, dN]
 split <;> omega
theorem bZ1 : ∀ q : Fin 31, (br6 (q.1 + 1)).length ≤ 7 := by decide +kernel
theorem aJ4 (k : Int) (sep : List UInt8) (hs : sep.length ≤ 1) : ∀ l : List Nd, (∀ x ∈ l, (j7 k x).length + 1 ≤ 9 * szN x) → l ≠ [] → (Lib.join (p7 k l) sep).length + 1 ≤ 9 * aP8 l
 | [], _, h => absurd rfl h
 | [x], h, _ => by
  rw [p7, p7, J2, aP8, aP8]
  exact h x (by simp)
 | x :: y :: l, h, _ => by
  have h1 := h x (by simp)
  have h2 := aJ4 k sep hs (y :: l) (fun z hz => h z (List.mem_cons_of_mem _ hz)) (by simp)
  have e : p7 k (x :: y :: l) = j7 k x :: j7 k y :: p7 k l := by rw [p7, p7]
  have e2 : p7 k (y :: l) = j7 k y :: p7 k l := by rw [p7]
  have e3 : aP8 (x :: y :: l) = szN x + aP8 (y :: l) := by rw [aP8]
  rw [e2] at h2
  rw [e, B1, List.length_append, List.length_append, e3]
  omega
theorem aX7 : ∀ (n : Nd) (w : Int), B0 n = true → (j7 w n).length + 1 ≤ 9 * szN n
 | .mk k s lo hi l, w, hr => by
  obtain ⟨hx, hc⟩ := y5 hr
  have hkid : ∀ x ∈ l, (j7 k x).length + 1 ≤ 9 * szN x := fun x hm => by
   have : SizeOf.sizeOf x < SizeOf.sizeOf (Nd.mk k s lo hi l) := by
    have := List.sizeOf_lt_of_mem hm
    simp only [Nd.mk.sizeOf_spec]
    omega
   exact aX7 x k (hx x hm)
  rw [szN]
  rcases hc with ⟨rfl, rfl, rfl, rfl, h0, h1⟩ | ⟨hk, rfl, rfl, rfl, rfl⟩ | ⟨hk, rfl, rfl, rfl, y1, y2, r, rfl⟩ | ⟨hk, rfl, rfl, rfl, x, rfl⟩ | ⟨rfl, rfl, h0, h1, h2, x, rfl⟩
  ·rw [j7, if_pos rfl]
   have := bZ1 ⟨s.toNat - 1, by omega⟩
   rw [show s.toNat - 1 + 1 = s.toNat by omega] at this
   omega
  ·rcases hk with rfl | rfl
   ·rw [j7, if_neg (by decide), if_pos rfl]; simp; omega
   ·rw [j7, if_neg (by decide), if_neg (by decide), if_pos rfl]; simp; omega
  ·rw [j7, if_neg (by omega), if_neg (by omega), if_neg (by omega), if_pos hk, bM6]
   have := aJ4 k (if k = 5 then [124] else []) (by split <;> simp) _ hkid (by simp)
   split
   ·simp only [List.length_cons, List.length_append, List.length_nil]; omega
   ·omega
  ·have := hkid x (by simp)
   rw [j7, if_neg (by omega), if_neg (by omega), if_neg (by omega), if_neg (by omega), p7, aP8, aP8, List.headD_cons, List.length_append]
   have : (bf1 k 0 0).length ≤ 5 := by
    unfold bf1
    repeat' split
    all_goals simp
   omega
  ·have := hkid x (by simp)
   rw [j7, if_neg (by omega), if_neg (by omega), if_neg (by omega), if_neg (by omega), p7, aP8, aP8, List.headD_cons, List.length_append]
   have : (bf1 9 lo hi).length ≤ 5 := by
    unfold bf1
    repeat' split
    all_goals simp
   omega
termination_by n => SizeOf.sizeOf n
decreasing_by
 exact this
theorem bZ2 {l : List Rw} (h : bg2 l = true) : B0 (W4 l) = true ∧ az5 (W4 l) = true ∧ szN (W4 l) ≤ 1000000 ∧ (∀ w, (j7 w (W4 l)).length ≤ 9000000) ∧ bd0 (W4 l) ≤ 8 ∧ bd (W4 l) ≤ 8 ∧ bd5 (W4 l) ≤ 8 := by
 obtain ⟨h1, h2, h3⟩ := aU6 h
 have h4 := aX6 _ h2
 have h5 : 5 ^ dN (W4 l) ≤ 5 ^ 8 := Nat.pow_le_pow_right (by omega) h3
 have h6 := cu6 (W4 l)
 have h7 := cu7 (W4 l)
 have e : 5 ^ 8 = 390625 := by decide
 refine ⟨h1, aG9 _ h2, by omega, fun w => ?_, by omega, by omega, by omega⟩
 have := aX7 (W4 l) w h1
 omega
end Go.Proofs.YtpmjpogcaglphaaDoor.A
