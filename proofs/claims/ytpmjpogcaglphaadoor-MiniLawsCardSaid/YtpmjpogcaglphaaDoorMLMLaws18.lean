/- Machines of one way out of machines of many: names of sets. No program stands here but in what is imported. -/
import Derived.Test.YtpmjpogcaglphaaDoorMLMLaws7
import Derived.Test.YtpmjpogcaglphaaDoorMLMLaws17
set_option linter.unusedVariables false
set_option linter.unusedSimpArgs false
set_option linter.unnecessarySimpa false
namespace Go.Proofs.YtpmjpogcaglphaaDoor.A
open Go
def Y9 (n : Nat) : List UInt8 := if n < 10 then [UInt8.ofNat (48 + n)] else if n < 100 then [UInt8.ofNat (48 + n / 10), UInt8.ofNat (48 + n % 10)] else [UInt8.ofNat (48 + n / 100), UInt8.ofNat (48 + n / 10 % 10), UInt8.ofNat (48 + n % 10)]
def deI (l : List UInt8) : Nat := l.foldl (fun a c => 10 * a + (c.toNat - 48)) 0
theorem bV6 : ((List.range 1000).all fun n => decide (deI (Y9 n) = n)) = true := by decide +kernel
theorem bF2 : ((List.range 1000).all fun n => decide ((32 : UInt8) ∉ Y9 n)) = true := by decide +kernel
theorem aW4 {n : Nat} (h : n < 1000) : deI (Y9 n) = n := by
 have := List.all_eq_true.1 bV6 n (List.mem_range.2 h)
 exact of_decide_eq_true this
theorem df3 {n : Nat} (h : n < 1000) : (32 : UInt8) ∉ Y9 n := by
 have := List.all_eq_true.1 bF2 n (List.mem_range.2 h)
 exact of_decide_eq_true this
def M9 (l : List Int) : List UInt8 := l.flatMap fun x => Y9 x.toNat ++ [32]
theorem bd9 (l : List Int) (x : Int) : M9 (l ++ [x]) = M9 l ++ Y9 x.toNat ++ [32] := by simp [M9]
theorem bs1 {x : UInt8} : ∀ {a b u v : List UInt8}, x ∉ a → x ∉ b → a ++ x :: u = b ++ x :: v → a = b ∧ u = v
 | [], [], _, _, _, _, h => ⟨rfl, by simpa using h⟩
 | [], c :: b, _, _, _, hb, h => by
  simp only [List.nil_append, List.cons_append, List.cons.injEq] at h
  exact absurd (h.1 ▸ List.mem_cons_self ..) hb
 | c :: a, [], _, _, ha, _, h => by
  simp only [List.nil_append, List.cons_append, List.cons.injEq] at h
  exact absurd (h.1 ▸ List.mem_cons_self ..) ha
 | c :: a, d :: b, u, v, ha, hb, h => by
  simp only [List.cons_append, List.cons.injEq] at h
  obtain ⟨h1, h2⟩ := bs1 (fun hm => ha (List.mem_cons_of_mem _ hm)) (fun hm => hb (List.mem_cons_of_mem _ hm)) h.2
  exact ⟨by rw [h.1, h1], h2⟩
theorem aI3 : ∀ {l l' : List Int}, (∀ x ∈ l, 0 ≤ x ∧ x < 1000) → (∀ x ∈ l', 0 ≤ x ∧ x < 1000) → M9 l = M9 l' → l = l'
 | [], [], _, _, _ => rfl
 | [], y :: l', _, _, h => by simp [M9] at h
 | x :: l, [], _, _, h => by simp [M9] at h
 | x :: l, y :: l', h1, h2, h => by
  have hx := h1 x (List.mem_cons_self ..)
  have hy := h2 y (List.mem_cons_self ..)
  have e : Y9 x.toNat ++ 32 :: M9 l = Y9 y.toNat ++ 32 :: M9 l' := by simpa [M9] using h
  obtain ⟨e1, e2⟩ := bs1 (x := 32) (df3 (by omega)) (df3 (by omega)) e
  have e3 : x.toNat = y.toNat := by rw [← aW4 (n := x.toNat) (by omega), e1, aW4 (by omega)]
  rw [aI3 (fun z hz => h1 z (List.mem_cons_of_mem _ hz)) (fun z hz => h2 z (List.mem_cons_of_mem _ hz)) e2, show x = y by omega]
theorem bF3 {a b : List Bool} (hl : a.length = b.length) (h : B4 a = B4 b) : a = b := by
 rw [← av7 a, ← av7 b, hl, h]
def nm (b : List Bool) : AV := .str (M9 (B4 b))
def H8 (n : Nat) (S : List (List Bool)) : List (AV × AV) := (S.zipIdx n).map fun p => (nm p.1, .int .i64 p.2)
abbrev aw3 (S : List (List Bool)) : List (AV × AV) := H8 0 S
theorem as5 (n S b) : H8 n (S ++ [b]) = H8 n S ++ [(nm b, .int .i64 ((n + S.length : Nat) : Int))] := by
 unfold H8
 rw [List.zipIdx_append]
 simp
theorem bF4 {N : Nat} (hN : N ≤ 1000) {a b : List Bool} (ha : a.length = N) (hb : b.length = N) : N5 (nm a) (nm b) = some (decide (a = b)) := by
 have : (M9 (B4 a) == M9 (B4 b)) = decide (a = b) := by
  rw [Bool.eq_iff_iff, beq_iff_eq, decide_eq_true_iff]
  refine ⟨fun h => bF3 (by omega) (aI3 (fun x hx => ?_) (fun x hx => ?_) h), fun h => by rw [h]⟩
  ·have := af0 hx; omega
  ·have := af0 hx; omega
 unfold nm N5
 exact congrArg some this
theorem Z0 {N : Nat} (hN : N ≤ 1000) {t : List Bool} (ht : t.length = N) : ∀ {S : List (List Bool)} {n : Nat}, (∀ b ∈ S, b.length = N) → J9 (nm t) (H8 n S) = some (if t ∈ S then some (.int .i64 ((n + S.idxOf t : Nat) : Int)) else none)
 | [], n, _ => rfl
 | b :: S, n, h => by
  have ih := Z0 hN ht (S := S) (n := n + 1) (fun c hc => h c (List.mem_cons_of_mem _ hc))
  have he := bF4 hN ht (h b (List.mem_cons_self ..))
  have hcons : H8 n (b :: S) = (nm b, .int .i64 (n : Int)) :: H8 (n + 1) S := by simp [H8, List.zipIdx_cons]
  rw [hcons]
  simp only [J9, he, ih]
  by_cases hb : t = b
  ·subst hb
   rw [decide_eq_true (rfl : t = t), if_pos (List.mem_cons_self ..), List.idxOf_cons_self]
   rfl
  ·have hb' : ¬ b = t := fun e => hb e.symm
   have hi : (b :: S).idxOf t = S.idxOf t + 1 := by
    rw [List.idxOf_cons, beq_false_of_ne hb']
    rfl
   simp only [hb, decide_false, hi, List.mem_cons, false_or]
   rw [show n + 1 + S.idxOf t = n + (S.idxOf t + 1) by omega]
theorem be0 {N : Nat} (hN : N ≤ 1000) {t : List Bool} (ht : t.length = N) {S : List (List Bool)} (h : ∀ b ∈ S, b.length = N) (hn : t ∉ S) : aC6 (nm t) (.int .i64 (S.length : Int)) (aw3 S) = aw3 (aj8 S t) := by
 have hf := Z0 hN ht (n := 0) h
 rw [if_neg hn] at hf
 rw [(O7 hf).2, aA9 S t hn]
 unfold aw3
 rw [as5, Nat.zero_add]
end Go.Proofs.YtpmjpogcaglphaaDoor.A
