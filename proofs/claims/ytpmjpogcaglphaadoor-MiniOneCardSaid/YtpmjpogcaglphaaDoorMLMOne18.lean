/- Machines of one way out of machines of many: names of sets. No program stands here but in what is imported. -/
import Derived.Test.YtpmjpogcaglphaaDoorMLMOne7
import Derived.Test.YtpmjpogcaglphaaDoorMLMOne17
set_option linter.unusedVariables false
set_option linter.unusedSimpArgs false
set_option linter.unnecessarySimpa false
namespace Go.Proofs.YtpmjpogcaglphaaDoor.A
open Go
def ab1 (n : Nat) : List UInt8 := if n < 10 then [UInt8.ofNat (48 + n)] else if n < 100 then [UInt8.ofNat (48 + n / 10), UInt8.ofNat (48 + n % 10)] else [UInt8.ofNat (48 + n / 100), UInt8.ofNat (48 + n / 10 % 10), UInt8.ofNat (48 + n % 10)]
def deI (l : List UInt8) : Nat := l.foldl (fun a c => 10 * a + (c.toNat - 48)) 0
theorem cf9 : ((List.range 1000).all fun n => decide (deI (ab1 n) = n)) = true := by decide +kernel
theorem bN1 : ((List.range 1000).all fun n => decide ((32 : UInt8) ∉ ab1 n)) = true := by decide +kernel
theorem aZ7 {n : Nat} (h : n < 1000) : deI (ab1 n) = n := by
 have := List.all_eq_true.1 cf9 n (List.mem_range.2 h)
 exact of_decide_eq_true this
theorem dq8 {n : Nat} (h : n < 1000) : (32 : UInt8) ∉ ab1 n := by
 have := List.all_eq_true.1 bN1 n (List.mem_range.2 h)
 exact of_decide_eq_true this
def P0 (l : List Int) : List UInt8 := l.flatMap fun x => ab1 x.toNat ++ [32]
theorem bh8 (l : List Int) (x : Int) : P0 (l ++ [x]) = P0 l ++ ab1 x.toNat ++ [32] := by simp [P0]
theorem bw7 {x : UInt8} : ∀ {a b u v : List UInt8}, x ∉ a → x ∉ b → a ++ x :: u = b ++ x :: v → a = b ∧ u = v
 | [], [], _, _, _, _, h => ⟨rfl, by simpa using h⟩
 | [], c :: b, _, _, _, hb, h => by
  simp only [List.nil_append, List.cons_append, List.cons.injEq] at h
  exact absurd (h.1 ▸ List.mem_cons_self ..) hb
 | c :: a, [], _, _, ha, _, h => by
  simp only [List.nil_append, List.cons_append, List.cons.injEq] at h
  exact absurd (h.1 ▸ List.mem_cons_self ..) ha
 | c :: a, d :: b, u, v, ha, hb, h => by
  simp only [List.cons_append, List.cons.injEq] at h
  obtain ⟨h1, h2⟩ := bw7 (fun hm => ha (List.mem_cons_of_mem _ hm)) (fun hm => hb (List.mem_cons_of_mem _ hm)) h.2
  exact ⟨by rw [h.1, h1], h2⟩
theorem aL0 : ∀ {l l' : List Int}, (∀ x ∈ l, 0 ≤ x ∧ x < 1000) → (∀ x ∈ l', 0 ≤ x ∧ x < 1000) → P0 l = P0 l' → l = l'
 | [], [], _, _, _ => rfl
 | [], y :: l', _, _, h => by simp [P0] at h
 | x :: l, [], _, _, h => by simp [P0] at h
 | x :: l, y :: l', h1, h2, h => by
  have hx := h1 x (List.mem_cons_self ..)
  have hy := h2 y (List.mem_cons_self ..)
  have e : ab1 x.toNat ++ 32 :: P0 l = ab1 y.toNat ++ 32 :: P0 l' := by simpa [P0] using h
  obtain ⟨e1, e2⟩ := bw7 (x := 32) (dq8 (by omega)) (dq8 (by omega)) e
  have e3 : x.toNat = y.toNat := by rw [← aZ7 (n := x.toNat) (by omega), e1, aZ7 (by omega)]
  rw [aL0 (fun z hz => h1 z (List.mem_cons_of_mem _ hz)) (fun z hz => h2 z (List.mem_cons_of_mem _ hz)) e2, show x = y by omega]
theorem bN2 {a b : List Bool} (hl : a.length = b.length) (h : C6 a = C6 b) : a = b := by
 rw [← ay4 a, ← ay4 b, hl, h]
def nm (b : List Bool) : AV := .str (P0 (C6 b))
def J3 (n : Nat) (S : List (List Bool)) : List (AV × AV) := (S.zipIdx n).map fun p => (nm p.1, .int .i64 p.2)
abbrev az2 (S : List (List Bool)) : List (AV × AV) := J3 0 S
theorem av7 (n S b) : J3 n (S ++ [b]) = J3 n S ++ [(nm b, .int .i64 ((n + S.length : Nat) : Int))] := by
 unfold J3
 rw [List.zipIdx_append]
 simp
theorem bN3 {N : Nat} (hN : N ≤ 1000) {a b : List Bool} (ha : a.length = N) (hb : b.length = N) : P7 (nm a) (nm b) = some (decide (a = b)) := by
 have : (P0 (C6 a) == P0 (C6 b)) = decide (a = b) := by
  rw [Bool.eq_iff_iff, beq_iff_eq, decide_eq_true_iff]
  refine ⟨fun h => bN2 (by omega) (aL0 (fun x hx => ?_) (fun x hx => ?_) h), fun h => by rw [h]⟩
  ·have := ah3 hx; omega
  ·have := ah3 hx; omega
 unfold nm P7
 exact congrArg some this
theorem ab2 {N : Nat} (hN : N ≤ 1000) {t : List Bool} (ht : t.length = N) : ∀ {S : List (List Bool)} {n : Nat}, (∀ b ∈ S, b.length = N) → L9 (nm t) (J3 n S) = some (if t ∈ S then some (.int .i64 ((n + S.idxOf t : Nat) : Int)) else none)
 | [], n, _ => rfl
 | b :: S, n, h => by
  have ih := ab2 hN ht (S := S) (n := n + 1) (fun c hc => h c (List.mem_cons_of_mem _ hc))
  have he := bN3 hN ht (h b (List.mem_cons_self ..))
  have hcons : J3 n (b :: S) = (nm b, .int .i64 (n : Int)) :: J3 (n + 1) S := by simp [J3, List.zipIdx_cons]
  rw [hcons]
  simp only [L9, he, ih]
  by_cases hb : t = b
  ·subst hb
   rw [decide_eq_true (rfl : t = t), if_pos (List.mem_cons_self ..), List.idxOf_cons_self]
   rfl
  ·have hb' : ¬ b = t := fun e => hb e.symm
   have hi : (b :: S).idxOf t = S.idxOf t + 1 := by
    rw [List.idxOf_cons, beq_false_of_ne hb']
    rfl
   simp only [hb, decide_false, hi, List.mem_cons, false_or]
   rw [show n + 1 + S.idxOf t = n + (S.idxOf t + 1) by omega]
theorem bh9 {N : Nat} (hN : N ≤ 1000) {t : List Bool} (ht : t.length = N) {S : List (List Bool)} (h : ∀ b ∈ S, b.length = N) (hn : t ∉ S) : aF5 (nm t) (.int .i64 (S.length : Int)) (az2 S) = az2 (am8 S t) := by
 have hf := ab2 hN ht (n := 0) h
 rw [if_neg hn] at hf
 rw [(R0 hf).2, aD5 S t hn]
 unfold az2
 rw [av7, Nat.zero_add]
end Go.Proofs.YtpmjpogcaglphaaDoor.A
