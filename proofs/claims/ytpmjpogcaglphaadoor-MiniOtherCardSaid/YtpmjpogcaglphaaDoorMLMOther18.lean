/- Machines of one way out of machines of many: names of sets. No program stands here but in what is imported. -/
import Derived.Test.YtpmjpogcaglphaaDoorMLMOther7
import Derived.Test.YtpmjpogcaglphaaDoorMLMOther17
set_option linter.unusedVariables false
set_option linter.unusedSimpArgs false
set_option linter.unnecessarySimpa false
namespace Go.Proofs.YtpmjpogcaglphaaDoor.A
open Go
def Y3 (n : Nat) : List UInt8 := if n < 10 then [UInt8.ofNat (48 + n)] else if n < 100 then [UInt8.ofNat (48 + n / 10), UInt8.ofNat (48 + n % 10)] else [UInt8.ofNat (48 + n / 100), UInt8.ofNat (48 + n / 10 % 10), UInt8.ofNat (48 + n % 10)]
def deI (l : List UInt8) : Nat := l.foldl (fun a c => 10 * a + (c.toNat - 48)) 0
theorem bX1 : ((List.range 1000).all fun n => decide (deI (Y3 n) = n)) = true := by decide +kernel
theorem bE6 : ((List.range 1000).all fun n => decide ((32 : UInt8) ∉ Y3 n)) = true := by decide +kernel
theorem aU5 {n : Nat} (h : n < 1000) : deI (Y3 n) = n := by
 have := List.all_eq_true.1 bX1 n (List.mem_range.2 h)
 exact of_decide_eq_true this
theorem dj7 {n : Nat} (h : n < 1000) : (32 : UInt8) ∉ Y3 n := by
 have := List.all_eq_true.1 bE6 n (List.mem_range.2 h)
 exact of_decide_eq_true this
def N2 (l : List Int) : List UInt8 := l.flatMap fun x => Y3 x.toNat ++ [32]
theorem bb3 (l : List Int) (x : Int) : N2 (l ++ [x]) = N2 l ++ Y3 x.toNat ++ [32] := by simp [N2]
theorem bq1 {x : UInt8} : ∀ {a b u v : List UInt8}, x ∉ a → x ∉ b → a ++ x :: u = b ++ x :: v → a = b ∧ u = v
 | [], [], _, _, _, _, h => ⟨rfl, by simpa using h⟩
 | [], c :: b, _, _, _, hb, h => by
  simp only [List.nil_append, List.cons_append, List.cons.injEq] at h
  exact absurd (h.1 ▸ List.mem_cons_self ..) hb
 | c :: a, [], _, _, ha, _, h => by
  simp only [List.nil_append, List.cons_append, List.cons.injEq] at h
  exact absurd (h.1 ▸ List.mem_cons_self ..) ha
 | c :: a, d :: b, u, v, ha, hb, h => by
  simp only [List.cons_append, List.cons.injEq] at h
  obtain ⟨h1, h2⟩ := bq1 (fun hm => ha (List.mem_cons_of_mem _ hm)) (fun hm => hb (List.mem_cons_of_mem _ hm)) h.2
  exact ⟨by rw [h.1, h1], h2⟩
theorem aG2 : ∀ {l l' : List Int}, (∀ x ∈ l, 0 ≤ x ∧ x < 1000) → (∀ x ∈ l', 0 ≤ x ∧ x < 1000) → N2 l = N2 l' → l = l'
 | [], [], _, _, _ => rfl
 | [], y :: l', _, _, h => by simp [N2] at h
 | x :: l, [], _, _, h => by simp [N2] at h
 | x :: l, y :: l', h1, h2, h => by
  have hx := h1 x (List.mem_cons_self ..)
  have hy := h2 y (List.mem_cons_self ..)
  have e : Y3 x.toNat ++ 32 :: N2 l = Y3 y.toNat ++ 32 :: N2 l' := by simpa [N2] using h
  obtain ⟨e1, e2⟩ := bq1 (x := 32) (dj7 (by omega)) (dj7 (by omega)) e
  have e3 : x.toNat = y.toNat := by rw [← aU5 (n := x.toNat) (by omega), e1, aU5 (by omega)]
  rw [aG2 (fun z hz => h1 z (List.mem_cons_of_mem _ hz)) (fun z hz => h2 z (List.mem_cons_of_mem _ hz)) e2, show x = y by omega]
theorem bE7 {a b : List Bool} (hl : a.length = b.length) (h : B3 a = B3 b) : a = b := by
 rw [← av0 a, ← av0 b, hl, h]
def nm (b : List Bool) : AV := .str (N2 (B3 b))
def I2 (n : Nat) (S : List (List Bool)) : List (AV × AV) := (S.zipIdx n).map fun p => (nm p.1, .int .i64 p.2)
abbrev av5 (S : List (List Bool)) : List (AV × AV) := I2 0 S
theorem ar4 (n S b) : I2 n (S ++ [b]) = I2 n S ++ [(nm b, .int .i64 ((n + S.length : Nat) : Int))] := by
 unfold I2
 rw [List.zipIdx_append]
 simp
theorem bE8 {N : Nat} (hN : N ≤ 1000) {a b : List Bool} (ha : a.length = N) (hb : b.length = N) : M8 (nm a) (nm b) = some (decide (a = b)) := by
 have : (N2 (B3 a) == N2 (B3 b)) = decide (a = b) := by
  rw [Bool.eq_iff_iff, beq_iff_eq, decide_eq_true_iff]
  refine ⟨fun h => bE7 (by omega) (aG2 (fun x hx => ?_) (fun x hx => ?_) h), fun h => by rw [h]⟩
  ·have := ae1 hx; omega
  ·have := ae1 hx; omega
 unfold nm M8
 exact congrArg some this
theorem Y4 {N : Nat} (hN : N ≤ 1000) {t : List Bool} (ht : t.length = N) : ∀ {S : List (List Bool)} {n : Nat}, (∀ b ∈ S, b.length = N) → G4 (nm t) (I2 n S) = some (if t ∈ S then some (.int .i64 ((n + S.idxOf t : Nat) : Int)) else none)
 | [], n, _ => rfl
 | b :: S, n, h => by
  have ih := Y4 hN ht (S := S) (n := n + 1) (fun c hc => h c (List.mem_cons_of_mem _ hc))
  have he := bE8 hN ht (h b (List.mem_cons_self ..))
  have hcons : I2 n (b :: S) = (nm b, .int .i64 (n : Int)) :: I2 (n + 1) S := by simp [I2, List.zipIdx_cons]
  rw [hcons]
  simp only [G4, he, ih]
  by_cases hb : t = b
  ·subst hb
   rw [decide_eq_true (rfl : t = t), if_pos (List.mem_cons_self ..), List.idxOf_cons_self]
   rfl
  ·have hb' : ¬ b = t := fun e => hb e.symm
   have hi : (b :: S).idxOf t = S.idxOf t + 1 := by
    rw [List.idxOf_cons, beq_false_of_ne hb']
    rfl
   simp only [hb, decide_false, hi, List.mem_cons, false_or]
   rw [show n + 1 + S.idxOf t = n + (S.idxOf t + 1) by omega]
theorem bb4 {N : Nat} (hN : N ≤ 1000) {t : List Bool} (ht : t.length = N) {S : List (List Bool)} (h : ∀ b ∈ S, b.length = N) (hn : t ∉ S) : aA6 (nm t) (.int .i64 (S.length : Int)) (av5 S) = av5 (aj0 S t) := by
 have hf := Y4 hN ht (n := 0) h
 rw [if_neg hn] at hf
 rw [(K0 hf).2, az1 S t hn]
 unfold av5
 rw [ar4, Nat.zero_add]
end Go.Proofs.YtpmjpogcaglphaaDoor.A
