/- Machines over one another, plainly: numbered another way, beside a copy, begun elsewhere. -/
import Derived.Test.YtpmjpogcaglphaaDoorMLMOther24
set_option linter.unusedVariables false
set_option linter.unusedSimpArgs false
set_option linter.unnecessarySimpa false
namespace Go.Proofs.YtpmjpogcaglphaaDoor.A
open Go
set_option maxRecDepth 20000
structure PermL (k : Nat) (t : List Nat) : Prop where
 len : t.length = k
 lt : ∀ (i x : Nat), t[i]? = some x → x < k
 inj : ∀ (i j x : Nat), t[i]? = some x → t[j]? = some x → i = j
theorem PermL.range (k : Nat) : PermL k (List.range k) := by
 refine ⟨by simp, fun i x h => ?_, fun i j x h h' => ?_⟩
 ·have h1 := (List.getElem?_eq_some_iff.1 h).1
  have h2 := (List.getElem?_eq_some_iff.1 h).2
  simp at h1 h2
  omega
 ·have h2 := (List.getElem?_eq_some_iff.1 h).2
  have h3 := (List.getElem?_eq_some_iff.1 h').2
  simp at h2 h3
  omega
theorem PermL.nodup {k t} (h : PermL k t) : t.Nodup := by
 unfold List.Nodup
 rw [List.pairwise_iff_getElem]
 intro i j hi hj hij e
 have := h.inj i j t[i] (List.getElem?_eq_getElem hi) (by rw [e]; exact List.getElem?_eq_getElem hj)
 omega
def cb6 (s i : Nat) : Nat := if i = 0 then s else if i = s then 0 else i
def cV7 (N : List Int) (n s : Nat) : List Int := (List.range (5 * n)).map fun i => (cb6 s (N.getD (cb6 s (i / 5) * 5 + i % 5) 0).toNat : Int)
def cV8 (A : List Bool) (s : Nat) : List Bool := (List.range A.length).map fun i => A.getD (cb6 s i) false
set_option maxRecDepth 20000
theorem aH9 : ∀ (n : Nat) (u v : List Nat), u.length = n → (∀ z ∈ u, z < 5) → (∀ z ∈ v, z < 5) → C5 u = C5 v → u = v
 | 0, u, v, hn, _, _, e => by
  have : u = [] := List.length_eq_zero_iff.1 hn
  subst this
  rcases W2 v with rfl | ⟨v, m, rfl⟩
  ·rfl
  ·rw [K2] at e
   have : C5 [] = 0 := rfl
   omega
 | n + 1, u, v, hn, hu, hv, e => by
  rcases W2 u with rfl | ⟨u, a, rfl⟩
  ·simp at hn
  ·rcases W2 v with rfl | ⟨v, b, rfl⟩
   ·rw [K2] at e
    have : C5 [] = 0 := rfl
    omega
   ·rw [K2, K2] at e
    have ha := hu a (by simp)
    have hb := hv b (by simp)
    have h1 : C5 u = C5 v := by omega
    have h2 : a = b := by omega
    rw [aH9 n u v (by simpa using hn) (fun z hz => hu z (by simp [hz])) (fun z hz => hv z (by simp [hz])) h1, h2]
end Go.Proofs.YtpmjpogcaglphaaDoor.A
