/- The document's matching: sets of places; one, both. -/
import Derived.Test.YtpmjpogcaglphaaDoorMLMOne37
import Derived.Test.YtpmjpogcaglphaaDoorMLMOne35
set_option linter.unusedVariables false
set_option linter.unusedSimpArgs false
set_option linter.unnecessarySimpa false
namespace Go.Proofs.YtpmjpogcaglphaaDoor.A
open Go
set_option maxRecDepth 20000
open Classical in
noncomputable def u7 (M : Nat → Nat → Prop) (b : List Bool) : List Bool := (List.range b.length).map fun j => decide (∃ i, b.getD i false = true ∧ M i j)
theorem B1 {n : Nat} (f : Nat → Bool) (j : Nat) : ((List.range n).map f).getD j false = (decide (j < n) && f j) := by
 rw [List.getD_eq_getElem?_getD, List.getElem?_map]
 by_cases h : j < n
 ·rw [List.getElem?_range h]; simp [h]
 ·rw [List.getElem?_eq_none (by simp; omega)]; simp [h]
theorem l8 (M b) : (u7 M b).length = b.length := by simp [u7]
theorem H5 {M : Nat → Nat → Prop} {b : List Bool} {j : Nat} : (u7 M b).getD j false = true ↔ j < b.length ∧ ∃ i, b.getD i false = true ∧ M i j := by
 classical
 rw [u7, B1, Bool.and_eq_true, decide_eq_true_eq, decide_eq_true_eq]
theorem O4 {a b : List Bool} (hl : a.length = b.length) (h : ∀ j, j < b.length → (a.getD j false = true ↔ b.getD j false = true)) : a = b := by
 refine List.ext_getElem hl fun j h1 h2 => ?_
 have e1 : a.getD j false = a[j] := by simp [List.getD, h1]
 have e2 : b.getD j false = b[j] := by simp [List.getD, h2]
 rw [Bool.eq_iff_iff, ← e1, ← e2]
 exact h j h2
theorem au4 {M : Nat → Nat → Prop} {b c : List Bool} (hl : c.length = b.length) (h : ∀ j, j < b.length → (c.getD j false = true ↔ ∃ i, b.getD i false = true ∧ M i j)) : c = u7 M b :=
 O4 (by rw [hl, l8]) fun j hj => by
  rw [l8] at hj
  rw [h j hj, H5]
  exact ⟨fun g => ⟨hj, g⟩, fun g => g.2⟩
theorem ai9 {b : List Bool} {i : Nat} (h : b.getD i false = true) : i < b.length := by
 by_cases hi : i < b.length
 ·exact hi
 ·rw [List.getD_eq_getElem?_getD, List.getElem?_eq_none (by omega)] at h
  cases h
theorem af3 (b : List Bool) (i j : Nat) (x : Bool) : (b.set i x).getD j false = if i = j ∧ j < b.length then x else b.getD j false := by
 rw [List.getD_eq_getElem?_getD, List.getD_eq_getElem?_getD, List.getElem?_set]
 by_cases h1 : i = j
 ·subst h1
  by_cases h2 : i < b.length
  ·simp [h2]
  ·simp [h2]
 ·simp [h1]
def orB (a b : List Bool) : List Bool := (List.range a.length).map fun i => a.getD i false || b.getD i false
def Z5 (a b : List Bool) : Bool := (List.range a.length).any fun i => b.getD i false && !a.getD i false
theorem I2 (a b) : (orB a b).length = a.length := by simp [orB]
theorem aT6 {a b : List Bool} (hl : b.length ≤ a.length) (j : Nat) : (orB a b).getD j false = true ↔ a.getD j false = true ∨ b.getD j false = true := by
 rw [orB, B1, Bool.and_eq_true, decide_eq_true_eq, Bool.or_eq_true]
 constructor
 ·exact fun h => h.2
 ·intro h
  refine ⟨?_, h⟩
  rcases h with h | h
  ·exact ai9 h
  ·have := ai9 h; omega
theorem aM5 {a b : List Bool} (hl : b.length ≤ a.length) : Z5 a b = true ↔ ∃ i, b.getD i false = true ∧ a.getD i false = false := by
 rw [Z5, List.any_eq_true]
 constructor
 ·rintro ⟨i, _, h⟩
  rw [Bool.and_eq_true, Bool.not_eq_true'] at h
  exact ⟨i, h⟩
 ·rintro ⟨i, h1, h2⟩
  have := ai9 h1
  exact ⟨i, List.mem_range.2 (by omega), by rw [h1, h2]; rfl⟩
theorem bR3 (X) : d9 (EX md0 X) (fun _ => none) 2 Tryd.f55 = true := by kernel_rfl
def aE5 (n : Nat) : List Bool := (List.replicate n false).set 0 true
theorem cj7 (n : Nat) (h0 : 0 < n) (hn : n ≤ 10000000) : Ok Tryd.prog 55 [.int .i64 n, .int .i64 0] (slB (aE5 n)) := by
 refine k0 (E := EX md0 (fun _ _ => none)) (cr := noR) (z7 _) (m6 _) mixed (k := 10) Tryd.func55 (bR3 _) rfl ?_
 have hs : s6 (cB (List.replicate n false)) 0 [.bool true] = cB (aE5 n) := aJ0 _ 0 true (by simpa using h0)
 have hl : (aE5 n).length = n := by simp [aE5]
 have htk : (cB (aE5 n)).take n = cB (aE5 n) := f7 (by rw [z8, hl])
 have hz := G8 n
 simp only [Tryd.f55, Option.getD_some]
 simp (disch := omega) only [go_sem, hz, hs, hl, htk]
 rw [slB, hl]
def orT (a b : List Bool) (k : Nat) : List Bool := (List.range a.length).map fun i => if i < k then a.getD i false || b.getD i false else a.getD i false
def bB1 (a b : List Bool) (k : Nat) : Bool := (List.range k).any fun i => b.getD i false && !a.getD i false
theorem I3 (a b k) : (orT a b k).length = a.length := by simp [orT]
theorem bR4 (a b) : orT a b 0 = a := O4 (I3 a b 0) fun j hj => by rw [orT, B1]; simp [hj]
theorem bR5 (a b) : orT a b a.length = orB a b := O4 (by rw [I3, I2]) fun j hj => by
 rw [I2] at hj
 rw [orT, orB, B1, B1]; simp [hj]
theorem bB2 (a b : List Bool) (k : Nat) (hk : k < a.length) : (orT a b k).getD k false = a.getD k false := by
 rw [orT, B1]; simp [hk]
theorem bR6 (a b : List Bool) (k : Nat) (hk : k < a.length) : orT a b (k + 1) = if b.getD k false && !a.getD k false then (orT a b k).set k true else orT a b k := by
 refine O4 ?_ fun j hj => ?_
 ·rw [I3]; split <;> simp [I3]
 ·have hja : j < a.length := by
   split at hj <;> simp [I3] at hj <;> exact hj
  rw [orT, B1]
  by_cases hjk : j = k
  ·subst hjk
   have e0 := bB2 a b j hja
   rw [if_pos (by omega), decide_eq_true hja, Bool.true_and]
   cases h1 : b.getD j false <;> cases h2 : a.getD j false <;> rw [h2] at e0
   ·rw [if_neg (by decide), e0]; decide
   ·rw [if_neg (by decide), e0]; decide
   ·rw [if_pos (by decide), af3, if_pos ⟨rfl, by rw [I3]; exact hja⟩]; decide
   ·rw [if_neg (by decide), e0]; decide
  ·have e : (if j < k + 1 then a.getD j false || b.getD j false else a.getD j false) = (if j < k then a.getD j false || b.getD j false else a.getD j false) := by
    by_cases h : j < k
    ·rw [if_pos h, if_pos (by omega)]
    ·rw [if_neg h, if_neg (by omega)]
   rw [e]
   have e1 : (orT a b k).getD j false = (decide (j < a.length) && (if j < k then a.getD j false || b.getD j false else a.getD j false)) := by rw [orT, B1]
   by_cases hc : (b.getD k false && !a.getD k false) = true
   ·have e2 : (if k = j ∧ j < (orT a b k).length then true else (orT a b k).getD j false) = (orT a b k).getD j false := if_neg (fun e => hjk e.1.symm)
    rw [if_pos hc, af3, e2, e1]
   ·rw [if_neg hc, e1]
theorem bj3 (a b : List Bool) (k : Nat) : bB1 a b (k + 1) = (bB1 a b k || (b.getD k false && !a.getD k false)) := by
 rw [bB1, List.range_succ, List.any_append]
 simp [bB1]
theorem bR7 (X) : d9 (EX md0 X) (fun _ => none) 2 Tryd.f82 = true := by kernel_rfl
theorem cj8 (a b : List Bool) (hl : b.length = a.length) (hn : a.length ≤ 10000000) : Ok Tryd.prog 82 [slB a, slB b] (.tup [slB (orB a b), .bool (Z5 a b)]) := by
 refine k0 (E := EX md0 (fun _ _ => none)) (cr := noR) (z7 _) (m6 _) mixed (k := 10000010) Tryd.func82 (bR7 _) rfl ?_
 have htk : (cB a).take a.length = cB a := f7 (z8 a)
 simp only [Tryd.f82, Option.getD_some]
 simp (disch := omega) only [go_sem, htk]
 refine p9 (fun m a' o nx => ∃ i : Nat, i ≤ a.length ∧ m = a.length - i ∧ 2 ≤ nx ∧ a' 1 = slB b ∧ a' 6 = .ref (1, 9) (1, 11) 0 a.length ∧ a' 7 = .bool (bB1 a b i) ∧ a' 8 = .int .i64 i ∧ o (1, 9) = some (.row ⟨4, 1, (1, 11), false, true, cB (orT a b i)⟩)) a.length (by omega) ⟨0, by omega, by omega, by omega, by simp (disch := omega) only [go_sem], by simp (disch := omega) only [go_sem], by simp (disch := omega) only [go_sem]; rfl, by simp (disch := omega) only [go_sem], by simp (disch := omega) only [go_sem]; rw [bR4]⟩ ?_
 rintro m a' o nx ⟨i, hi, rfl, hnx, a1, a6, a7, a8, ho⟩
 have hlt' := I3 a b i
 by_cases hlt : i < a.length
 ·have hgb := R3 (l := b) (s := 1) (show i < b.length by omega)
  have hga := R3 (l := orT a b i) (s := 1) (show i < (orT a b i).length by omega)
  rw [bB2 a b i hlt] at hga
  have hset := aJ0 (orT a b i) i true (by omega)
  have hsn := bR6 a b i hlt
  have hmn := bj3 a b i
  cases h1 : b.getD i false <;> cases h2 : a.getD i false <;> rw [h1] at hgb <;> rw [h2] at hga <;> rw [h1, h2] at hsn hmn
  ·simp (disch := omega) only [go_sem, a1, a6, a7, a8, ho, hgb, hga, hl, hlt']
   exact ⟨_, by omega, i + 1, by omega, rfl, by rw [hmn]; simp, rfl, by rw [hsn]; rfl⟩
  ·simp (disch := omega) only [go_sem, a1, a6, a7, a8, ho, hgb, hga, hl, hlt']
   exact ⟨_, by omega, i + 1, by omega, rfl, by rw [hmn]; simp, rfl, by rw [hsn]; rfl⟩
  ·simp (disch := omega) only [go_sem, a1, a6, a7, a8, ho, hgb, hga, hl, hlt', hset]
   exact ⟨_, by omega, i + 1, by omega, rfl, by rw [hmn]; simp, rfl, by rw [hsn]; rfl⟩
  ·simp (disch := omega) only [go_sem, a1, a6, a7, a8, ho, hgb, hga, hl, hlt']
   exact ⟨_, by omega, i + 1, by omega, rfl, by rw [hmn]; simp, rfl, by rw [hsn]; rfl⟩
 ·have hie : i = a.length := by omega
  rw [hie] at a7 ho
  rw [bR5] at ho
  have htk2 : (cB (orB a b)).take a.length = cB (orB a b) := f7 (by rw [z8, I2])
  have hol := I2 a b
  simp (disch := omega) only [go_sem, a1, a6, a7, a8, ho, hl, hol, htk2]
  rw [slB, I2]
  rfl
end Go.Proofs.YtpmjpogcaglphaaDoor.A
namespace Go.Proofs.YtpmjpogcaglphaaDoor.A
open Go
set_option maxRecDepth 20000
theorem Iter.snoc_iff {R : Nat → Nat → Prop} : ∀ {m i j}, Iter R (m + 1) i j ↔ ∃ k, Iter R m i k ∧ R k j
 | 0, i, j => ⟨fun ⟨k, h1, h2⟩ => ⟨i, rfl, by obtain rfl : k = j := h2; exact h1⟩, fun ⟨k, h1, h2⟩ => ⟨j, by obtain rfl : i = k := h1; exact h2, rfl⟩⟩
 | m + 1, i, j => ⟨fun ⟨k, h1, h2⟩ => by
   obtain ⟨k', h3, h4⟩ := Iter.snoc_iff.1 h2
   exact ⟨k', ⟨k, h1, h3⟩, h4⟩, fun ⟨k', ⟨k, h1, h3⟩, h4⟩ => ⟨k, h1, Iter.snoc_iff.2 ⟨k', h3, h4⟩⟩⟩
theorem Iter.le {R : Nat → Nat → Prop} {n : Nat} (hR : ∀ i j, R i j → i ≤ n → j ≤ n) : ∀ {m i j}, Iter R m i j → i ≤ n → j ≤ n
 | 0, i, j, h, hi => by obtain rfl : i = j := h; exact hi
 | m + 1, i, j, ⟨k, h1, h2⟩, hi => Iter.le hR h2 (hR i k h1 hi)
theorem bR8 (w : List Int) : ∀ (x : Nd) (i j : Nat), Mt w x i j → i ≤ w.length → j ≤ w.length
 | .mk k s lo hi l, i, j, h, hi' => by
  have hkid : ∀ x ∈ l, ∀ i j, Mt w x i j → i ≤ w.length → j ≤ w.length := fun x hm i j => by
   have : SizeOf.sizeOf x < SizeOf.sizeOf (Nd.mk k s lo hi l) := by
    have := List.sizeOf_lt_of_mem hm
    simp only [Nd.mk.sizeOf_spec]
    omega
   exact bR8 w x i j
  have hJ : ∀ (l' : List Nd), (∀ x ∈ l', ∀ i j, Mt w x i j → i ≤ w.length → j ≤ w.length) → ∀ i j, MtJ w l' i j → i ≤ w.length → j ≤ w.length := by
   intro l'
   induction l' with
   | nil => intro _ i j h hi; rw [MtJ] at h; obtain rfl : i = j := h; exact hi
   | cons x l' ih =>
    intro hl i j h hi
    rw [MtJ] at h
    obtain ⟨k, h1, h2⟩ := h
    exact ih (fun y hy => hl y (List.mem_cons_of_mem _ hy)) k j h2 (hl x (by simp) i k h1 hi)
  have hU : ∀ (l' : List Nd), (∀ x ∈ l', ∀ i j, Mt w x i j → i ≤ w.length → j ≤ w.length) → ∀ i j, MtU w l' i j → i ≤ w.length → j ≤ w.length := by
   intro l'
   induction l' with
   | nil => intro _ i j h hi; rw [MtU] at h; exact h.elim
   | cons x l' ih =>
    intro hl i j h hi
    rw [MtU] at h
    rcases h with h | h
    ·exact hl x (by simp) i j h hi
    ·exact ih (fun y hy => hl y (List.mem_cons_of_mem _ hy)) i j h hi
  have hH : ∀ i j, MtH w l i j → i ≤ w.length → j ≤ w.length := by
   intro i j h hi
   cases l with
   | nil => rw [MtH] at h; exact h.elim
   | cons x l => rw [MtH] at h; exact hkid x (by simp) i j h hi
  rw [Mt] at h
  split at h
  ·obtain ⟨rfl, h1, _⟩ := h; omega
  split at h
  ·omega
  split at h
  ·exact hJ l hkid i j h hi'
  split at h
  ·exact hU l hkid i j h hi'
  split at h
  ·obtain ⟨m, h⟩ := h; exact Iter.le hH h hi'
  split at h
  ·obtain ⟨m, _, h⟩ := h; exact Iter.le hH h hi'
  split at h
  ·obtain ⟨m, _, h⟩ := h; exact Iter.le hH h hi'
  split at h
  ·obtain ⟨m, _, _, h⟩ := h; exact Iter.le hH h hi'
  ·exact h.elim
termination_by x => SizeOf.sizeOf x
decreasing_by
 exact this
theorem au5 {M1 M2 : Nat → Nat → Prop} {b : List Bool} (h : ∀ i k, M1 i k → i < b.length → k < b.length) : u7 M2 (u7 M1 b) = u7 (fun i j => ∃ k, M1 i k ∧ M2 k j) b := by
 refine au4 (by rw [l8, l8]) fun j hj => ?_
 rw [H5, l8]
 constructor
 ·rintro ⟨_, k, h1, h2⟩
  obtain ⟨_, i, h3, h4⟩ := H5.1 h1
  exact ⟨i, h3, k, h4, h2⟩
 ·rintro ⟨i, h3, k, h4, h2⟩
  exact ⟨hj, k, H5.2 ⟨h i k h4 (ai9 h3), i, h3, h4⟩, h2⟩
theorem t7 {M M' : Nat → Nat → Prop} {b : List Bool} (h : ∀ i j, M i j ↔ M' i j) : u7 M b = u7 M' b := by
 rw [show M = M' from funext fun i => funext fun j => propext (h i j)]
theorem au6 (M1 M2 : Nat → Nat → Prop) (b : List Bool) : orB (u7 M1 b) (u7 M2 b) = u7 (fun i j => M1 i j ∨ M2 i j) b := by
 refine au4 (by rw [I2, l8]) fun j hj => ?_
 rw [aT6 (by rw [l8, l8]; exact Nat.le_refl _), H5, H5]
 constructor
 ·rintro (⟨_, i, h1, h2⟩ | ⟨_, i, h1, h2⟩)
  ·exact ⟨i, h1, .inl h2⟩
  ·exact ⟨i, h1, .inr h2⟩
 ·rintro ⟨i, h1, h2 | h2⟩
  ·exact .inl ⟨hj, i, h1, h2⟩
  ·exact .inr ⟨hj, i, h1, h2⟩
theorem X2 (b : List Bool) : u7 (fun i j => i = j) b = b := (au4 rfl fun j _ => ⟨fun h => ⟨j, h, rfl⟩, fun ⟨i, h, e⟩ => e ▸ h⟩).symm
theorem aj0 (b : List Bool) : u7 (fun _ _ => False) b = List.replicate b.length false := (au4 (by simp) fun j hj => by simp [List.getD_eq_getElem?_getD, hj]).symm
def bj4 (l : List Bool) : Nat := (List.range l.length).countP fun j => l.getD j false
theorem aM6 {p q : Nat → Bool} (h : ∀ j, p j = true → q j = true) (j0 : Nat) (h1 : q j0 = true) (h2 : p j0 = false) : ∀ n, (List.range n).countP p ≤ (List.range n).countP q ∧ (j0 < n → (List.range n).countP p + 1 ≤ (List.range n).countP q)
 | 0 => ⟨by simp, fun h => by omega⟩
 | n + 1 => by
  obtain ⟨g1, g2⟩ := aM6 h j0 h1 h2 n
  rw [List.range_succ, List.countP_append, List.countP_append, List.countP_singleton, List.countP_singleton]
  have hpq : (if p n = true then 1 else 0) ≤ (if q n = true then 1 else 0) := by
   cases hp : p n with
   | false => simp
   | true => rw [h n hp]; simp
  refine ⟨by omega, fun hj => ?_⟩
  by_cases e : j0 = n
  ·subst e
   rw [h1, h2]
   simp
   exact g1
  ·have := g2 (by omega); omega
theorem bj5 {a c : List Bool} (hl : c.length = a.length) (h : Z5 a c = true) : bj4 a + 1 ≤ bj4 (orB a c) := by
 obtain ⟨j0, h1, h2⟩ := (aM5 (by omega)).1 h
 unfold bj4
 rw [I2]
 refine (aM6 (p := fun j => a.getD j false) (q := fun j => (orB a c).getD j false) (fun j hj => ?_) j0 ?_ h2 a.length).2 (by have := ai9 h1; omega)
 ·exact (aT6 (by omega) j).2 (.inl hj)
 ·exact (aT6 (by omega) j0).2 (.inr h1)
theorem bR9 (l : List Bool) : bj4 l ≤ l.length := by
 unfold bj4
 have := List.countP_le_length (p := fun j => l.getD j false) (l := List.range l.length)
 simpa using this
def upM (M : Nat → Nat → Prop) (t : Nat) (i j : Nat) : Prop := ∃ m, 1 ≤ m ∧ m ≤ t ∧ Iter M m i j
def au7 (M : Nat → Nat → Prop) (i j : Nat) : Prop := ∃ m, 1 ≤ m ∧ Iter M m i j
theorem bb4 (M : Nat → Nat → Prop) (t i j : Nat) : upM M (t + 1) i j ↔ upM M t i j ∨ Iter M (t + 1) i j := by
 constructor
 ·rintro ⟨m, h1, h2, h3⟩
  by_cases e : m = t + 1
  ·subst e; exact .inr h3
  ·exact .inl ⟨m, h1, by omega, h3⟩
 ·rintro (⟨m, h1, h2, h3⟩ | h)
  ·exact ⟨m, h1, by omega, h3⟩
  ·exact ⟨t + 1, by omega, Nat.le_refl _, h⟩
theorem bB3 {M : Nat → Nat → Prop} {b : List Bool} {t : Nat} (hle : ∀ i j, M i j → i < b.length → j < b.length) (h : Z5 (u7 (upM M t) b) (u7 (Iter M (t + 1)) b) = false) : u7 (upM M (t + 1)) b = u7 (au7 M) b := by
 have key : ∀ m i j, 1 ≤ m → b.getD i false = true → Iter M m i j → ∃ i', b.getD i' false = true ∧ upM M t i' j := by
  have hno : ∀ i j, b.getD i false = true → Iter M (t + 1) i j → ∃ i', b.getD i' false = true ∧ upM M t i' j := by
   intro i j hi hit
   by_cases hc : ∃ i', b.getD i' false = true ∧ upM M t i' j
   ·exact hc
   ·exfalso
    have hil := ai9 hi
    have hjl : j < b.length := by
     have := Iter.le (n := b.length - 1) (fun i j hm h' => by have := hle i j hm (by omega); omega) hit (by omega)
     omega
    have h1 : (u7 (Iter M (t + 1)) b).getD j false = true := H5.2 ⟨hjl, i, hi, hit⟩
    have h2 : (u7 (upM M t) b).getD j false = false := Bool.eq_false_iff.2 (fun e => hc (H5.1 e).2)
    rw [(aM5 (by rw [l8, l8]; exact Nat.le_refl _)).2 ⟨j, h1, h2⟩] at h
    cases h
  intro m
  induction m with
  | zero => intro i j h1; omega
  | succ m ih =>
   intro i j _ hi hit
   by_cases hm : m = 0
   ·subst hm
    by_cases ht : t = 0
    ·subst ht; exact hno i j hi hit
    ·exact ⟨i, hi, 1, by omega, by omega, hit⟩
   ·obtain ⟨k, h1, h2⟩ := Iter.snoc_iff.1 hit
    obtain ⟨i', h3, m', h4, h5, h6⟩ := ih i k (by omega) hi h1
    have h7 := h6.snoc h2
    by_cases e : m' = t
    ·subst e; exact hno i' j h3 h7
    ·exact ⟨i', h3, m' + 1, by omega, by omega, h7⟩
 refine O4 (by rw [l8, l8]) fun j hj => ?_
 rw [H5, H5]
 constructor
 ·rintro ⟨h1, i, h2, m, h3, _, h4⟩
  exact ⟨h1, i, h2, m, h3, h4⟩
 ·rintro ⟨h1, i, h2, m, h3, h4⟩
  obtain ⟨i', g1, g2⟩ := key m i j h3 h2 h4
  exact ⟨h1, i', g1, (bb4 M t i' j).2 (.inl g2)⟩
def bS0 (args : List AV) (r : AV) : Prop := ∃ a b : List Bool, b.length = a.length ∧ a.length ≤ 10000000 ∧ args = [slB a, slB b] ∧ r = .tup [slB (orB a b), .bool (Z5 a b)]
theorem bb5 : K5 bS0 := by
 rintro args r r' ⟨a, b, _, _, rfl, rfl⟩ ⟨a', b', _, _, h, rfl⟩
 simp only [List.cons.injEq, AV.sl.injEq, and_true] at h
 rw [ad0 h.1.2, ad0 h.2.2]
theorem aE6 (args r) (h : bS0 args r) : Ok Tryd.prog 82 args r := by obtain ⟨a, b, h1, h2, rfl, rfl⟩ := h; exact cj8 a b h1 h2
def dc4 (w : List Int) (l : List Nd) (args : List AV) (r : AV) : Prop := ∃ (i : Nat) (b : List Bool), i < l.length ∧ b.length = w.length + 1 ∧ args = [f6 (l.getD i default), slI w, slB b] ∧ r = slB (u7 (Mt w (l.getD i default)) b)
theorem bB4 (w l) : K5 (dc4 w l) := by
 rintro args r r' ⟨i, b, _, _, rfl, rfl⟩ ⟨i', b', _, _, h, rfl⟩
 simp only [List.cons.injEq, AV.agg.injEq, AV.sl.injEq, and_true, true_and] at h
 rw [T1 h.1, ad0 h.2.2]
def bb6 (w : List Int) (l : List Nd) : Prop := ∀ i, i < l.length → ∀ b : List Bool, b.length = w.length + 1 → Ok Tryd.prog 54 [f6 (l.getD i default), slI w, slB b] (slB (u7 (Mt w (l.getD i default)) b))
noncomputable def XKm (w : List Int) (l : List Nd) : FuncId → List AV → Option AV := p4 [(54, A4 (dc4 w l)), (82, A4 bS0)]
theorem bB5 {w l} (h : bb6 w l) : m9 Tryd.prog (XKm w l) := f9 (f9 (p7 _) (l9 aE6)) (l9 (fun args r h' => by obtain ⟨i, b, h1, h2, rfl, rfl⟩ := h'; exact h i h1 b h2))
theorem aE7 {w l} {i : Nat} (hi : i < l.length) {b : List Bool} (hb : b.length = w.length + 1) : XKm w l 54 [f6 (l.getD i default), slI w, slB b] = some (slB (u7 (Mt w (l.getD i default)) b)) := m5 (bB4 w l) ⟨i, b, hi, hb, rfl, rfl⟩
theorem aT7 {w l} {a b : List Bool} (hl : b.length = a.length) (hn : a.length ≤ 10000000) : XKm w l 82 [slB a, slB b] = some (.tup [slB (orB a b), .bool (Z5 a b)]) := m5 bb5 ⟨a, b, hl, hn, rfl, rfl⟩
theorem bB6 (X) : d9 (EX md0 X) (fun _ => none) 4 Tryd.f83 = true := by kernel_rfl
theorem bb7 (w : List Int) (hw : w.length ≤ 1000000) (x : Nd) (h : bb6 w [x]) (b : List Bool) (hb : b.length = w.length + 1) : Ok Tryd.prog 83 [f6 x, slI w, slB b, .int .i64 0] (slB (u7 (au7 (Mt w x)) b)) := by
 refine k0 (E := EX md0 (XKm w [x])) (cr := noR) (bB5 h) (m6 _) mixed (k := 10000010) Tryd.func83 (bB6 _) rfl ?_
 have hle : ∀ i j, Mt w x i j → i < b.length → j < b.length := fun i j hm hi => by have := bR8 w x i j hm (by omega); omega
 have hends : ∀ c : List Bool, c.length = w.length + 1 → XKm w [x] 54 [f6 x, slI w, slB c] = some (slB (u7 (Mt w x) c)) := fun c hc => aE7 (l := [x]) (i := 0) (by simp) hc
 have hboth : ∀ a c : List Bool, c.length = a.length → a.length ≤ 10000000 → XKm w [x] 82 [slB a, slB c] = some (.tup [slB (orB a c), .bool (Z5 a c)]) := fun a c => aT7
 generalize Mt w x = M at *
 generalize XKm w [x] = X at *
 have hup0 : u7 (upM M 0) b = List.replicate b.length false := by
  rw [← aj0]
  exact t7 (fun i j => ⟨fun ⟨m, h1, h2, _⟩ => by omega, fun h => h.elim⟩)
 have hit0 : u7 (Iter M 0) b = b := (t7 (fun i j => Iff.rfl)).trans (X2 b)
 have hz := G8 b.length
 obtain ⟨k, s, lo, hi, l⟩ := x
 simp only [f6, n5] at hends
 simp only [Tryd.f83, Option.getD_some, f6, n5]
 simp (disch := omega) only [go_sem, hz]
 refine p9 (fun m a o nx => ∃ t : Nat, t ≤ bj4 (u7 (upM M t) b) ∧ m = b.length + 1 - t ∧ 2 ≤ nx ∧ a 1 = slI w ∧ a 3 = .int .i64 0 ∧ a 4 = .ptr (0, 4) (0, 4) 0 ∧ (a 9 = slB (u7 (upM M t) b) ∨ (t = 0 ∧ a 9 = .ref (1, 16) (1, 16) 0 b.length ∧ o (1, 16) = some (.row ⟨4, 1, (1, 16), false, true, cB (List.replicate b.length false)⟩))) ∧ a 10 = slB (u7 (Iter M t) b) ∧ a 11 = .int .i64 t ∧ o (0, 4) = some (.row ⟨37, 1, (0, 4), false, true, [.int .i64 k, .int .i64 s, .int .i64 lo, .int .i64 hi, slN l]⟩)) (b.length + 1) (by omega) ⟨0, by omega, by omega, by omega, by simp (disch := omega) only [go_sem], by simp (disch := omega) only [go_sem], by simp (disch := omega) only [go_sem], .inr ⟨rfl, by simp (disch := omega) only [go_sem], by simp (disch := omega) only [go_sem]⟩, by simp (disch := omega) only [go_sem]; rw [hit0], by simp (disch := omega) only [go_sem], by simp (disch := omega) only [go_sem]⟩ ?_
 rintro m a o nx ⟨t, ht, rfl, hnx, a1, a3, a4, h9, a10, a11, ho⟩
 have htl := bR9 (u7 (upM M t) b)
 rw [l8] at htl
 have hc1 : (u7 (Iter M t) b).length = w.length + 1 := by rw [l8, hb]
 have e1 := hends _ hc1
 have e2 : u7 M (u7 (Iter M t) b) = u7 (Iter M (t + 1)) b := by
  rw [au5 (fun i k hm hi => by
   have := Iter.le (n := b.length - 1) (fun i j hm h' => by have := hle i j hm (by omega); omega) hm (by omega)
   omega)]
  exact t7 (fun i j => Iter.snoc_iff.symm)
 rw [e2] at e1
 have hl1 : (u7 (Iter M (t + 1)) b).length = (u7 (upM M t) b).length := by rw [l8, l8]
 have e3 := hboth (u7 (upM M t) b) (u7 (Iter M (t + 1)) b) hl1 (by rw [l8]; omega)
 have e4 : orB (u7 (upM M t) b) (u7 (Iter M (t + 1)) b) = u7 (upM M (t + 1)) b := by
  rw [au6]
  exact t7 (fun i j => (bb4 M t i j).symm)
 have hlU : (u7 (upM M t) b).length = b.length := l8 _ _
 have hlI : (u7 (Iter M t) b).length = b.length := l8 _ _
 have hlI' : (u7 (Iter M (t + 1)) b).length = b.length := l8 _ _
 have hlU' : (u7 (upM M (t + 1)) b).length = b.length := l8 _ _
 have hmore := bj5 hl1
 have hdone := bB3 (t := t) hle
 rw [e4] at e3 hmore
 cases hm : Z5 (u7 (upM M t) b) (u7 (Iter M (t + 1)) b) with
 | true =>
  rw [hm] at e3 hmore
  have hmore := hmore rfl
  rcases h9 with h9 | ⟨rfl, h9, ho9⟩
  ·simp (disch := omega) only [go_sem, a1, a3, a4, h9, a10, a11, ho, e1, e3]
   exact ⟨_, by omega, t + 1, by omega, rfl, rfl, rfl, rfl⟩
  ·rw [hup0] at e3
   have htk : (cB (List.replicate b.length false)).take b.length = cB (List.replicate b.length false) := f7 (by simp [cB])
   have hlr : (List.replicate b.length false).length = b.length := List.length_replicate
   simp only [slB, hlr] at e3
   simp (disch := omega) only [go_sem, a1, a3, a4, h9, ho9, a10, a11, ho, e1, e3, htk]
   exact ⟨_, by omega, 0 + 1, by omega, rfl, rfl, rfl, rfl⟩
 | false =>
  rw [hm] at e3
  have hdone := hdone hm
  rw [hdone] at e3
  have hlP : (u7 (au7 M) b).length = b.length := l8 _ _
  rcases h9 with h9 | ⟨rfl, h9, ho9⟩
  ·simp (disch := omega) only [go_sem, a1, a3, a4, h9, a10, a11, ho, e1, e3]
  ·rw [hup0] at e3
   have htk : (cB (List.replicate b.length false)).take b.length = cB (List.replicate b.length false) := f7 (by simp [cB])
   have hlr : (List.replicate b.length false).length = b.length := List.length_replicate
   simp only [slB, hlr] at e3
   simp (disch := omega) only [go_sem, a1, a3, a4, h9, ho9, a10, a11, ho, e1, e3, htk]
def bk7 (lo hi : Nat) (M : Nat → Nat → Prop) (i j : Nat) : Prop := ∃ m, lo ≤ m ∧ m ≤ hi ∧ Iter M m i j
theorem bB7 {lo t : Nat} (h : lo ≤ t) (M : Nat → Nat → Prop) (i j : Nat) : bk7 lo (t + 1) M i j ↔ bk7 lo t M i j ∨ Iter M (t + 1) i j := by
 constructor
 ·rintro ⟨m, h1, h2, h3⟩
  by_cases e : m = t + 1
  ·subst e; exact .inr h3
  ·exact .inl ⟨m, h1, by omega, h3⟩
 ·rintro (⟨m, h1, h2, h3⟩ | h')
  ·exact ⟨m, h1, by omega, h3⟩
  ·exact ⟨t + 1, by omega, Nat.le_refl _, h'⟩
theorem bB8 (lo : Nat) (M : Nat → Nat → Prop) (i j : Nat) : Iter M lo i j ↔ bk7 lo lo M i j :=
 ⟨fun h => ⟨lo, Nat.le_refl _, Nat.le_refl _, h⟩, fun ⟨m, h1, h2, h3⟩ => (show m = lo by omega) ▸ h3⟩
theorem bS1 (X) : d9 (EX md0 X) (fun _ => none) 3 Tryd.f84 = true := by kernel_rfl
theorem aM7 (w : List Int) (hw : w.length ≤ 1000000) (x : Nd) (h : bb6 w [x]) (lo hi : Nat) (h1 : lo ≤ hi) (h2 : hi ≤ 1000) (b : List Bool) (hb : b.length = w.length + 1) : Ok Tryd.prog 84 [f6 (.mk 9 0 lo hi [x]), slI w, slB b] (slB (u7 (bk7 lo hi (Mt w x)) b)) := by
 refine k0 (E := EX md0 (XKm w [x])) (cr := noR) (bB5 h) (m6 _) mixed (k := 10000010) Tryd.func84 (bS1 _) rfl ?_
 have hle : ∀ i j, Mt w x i j → i < b.length → j < b.length := fun i j hm hi => by have := bR8 w x i j hm (by omega); omega
 have hends : ∀ c : List Bool, c.length = w.length + 1 → XKm w [x] 54 [f6 x, slI w, slB c] = some (slB (u7 (Mt w x) c)) := fun c hc => aE7 (l := [x]) (i := 0) (by simp) hc
 have hboth : ∀ a c : List Bool, c.length = a.length → a.length ≤ 10000000 → XKm w [x] 82 [slB a, slB c] = some (.tup [slB (orB a c), .bool (Z5 a c)]) := fun a c => aT7
 generalize Mt w x = M at *
 generalize XKm w [x] = X at *
 have hit0 : u7 (Iter M 0) b = b := (t7 (fun i j => Iff.rfl)).trans (X2 b)
 have hit : ∀ t, u7 M (u7 (Iter M t) b) = u7 (Iter M (t + 1)) b := fun t => by
  rw [au5 (fun i k hm hi => by
   have := Iter.le (n := b.length - 1) (fun i j hm h' => by have := hle i j hm (by omega); omega) hm (by omega)
   omega)]
  exact t7 (fun i j => Iter.snoc_iff.symm)
 have hat : K7 [x] = cNd x ++ [] := by rw [B4, List.append_nil]
 have hlI : ∀ t, (u7 (Iter M t) b).length = b.length := fun t => l8 _ _
 have hlR : ∀ t, (u7 (bk7 lo t M) b).length = b.length := fun t => l8 _ _
 have hself : u7 (Iter M lo) b = u7 (bk7 lo lo M) b := t7 (fun i j => bB8 lo M i j)
 simp only [f6] at hends
 simp only [Tryd.f84, Option.getD_some, f6, n5, slN, List.length_singleton, hat]
 simp (disch := omega) only [go_sem]
 refine p9 (fun m a o nx => ∃ t : Nat, t ≤ lo ∧ m = lo - t ∧ 2 ≤ nx ∧ a 1 = slI w ∧ a 2 = slB (u7 (Iter M t) b) ∧ a 3 = .ptr (0, 3) (0, 3) 0 ∧ a 7 = .int .i64 t ∧ o (0, 3) = some (.row ⟨37, 1, (0, 3), false, true, [.int .i64 9, .int .i64 0, .int .i64 lo, .int .i64 hi, .sl 1 (cNd x ++ [])]⟩)) lo (by omega) ⟨0, by omega, by omega, by omega, by simp (disch := omega) only [go_sem], by simp (disch := omega) only [go_sem]; rw [hit0], by simp (disch := omega) only [go_sem], by simp (disch := omega) only [go_sem], by simp (disch := omega) only [go_sem]⟩ ?_
 rintro m a o nx ⟨t, ht, rfl, hnx, a1, a2, a3, a7, ho⟩
 have e1 := hends _ ((hlI t).trans hb)
 rw [hit t] at e1
 have l1 := hlI t
 have l2 := hlI (t + 1)
 by_cases hlt : t < lo
 ·simp (disch := omega) only [go_sem, a1, a2, a3, a7, ho, e1]
  exact ⟨_, by omega, t + 1, by omega, rfl, rfl, rfl⟩
 ·have hte : t = lo := by omega
  subst hte
  clear e1
  simp (disch := omega) only [go_sem, a1, a2, a3, a7, ho]
  refine p9 (fun m a o nx => ∃ u : Nat, t ≤ u ∧ u ≤ hi ∧ m = hi - u ∧ 2 ≤ nx ∧ a 1 = slI w ∧ a 2 = slB (u7 (Iter M u) b) ∧ a 3 = .ptr (0, 3) (0, 3) 0 ∧ a 8 = slB (u7 (bk7 t u M) b) ∧ a 9 = .int .i64 u ∧ o (0, 3) = some (.row ⟨37, 1, (0, 3), false, true, [.int .i64 9, .int .i64 0, .int .i64 t, .int .i64 hi, .sl 1 (cNd x ++ [])]⟩)) (hi - t) (by omega) ⟨t, by omega, by omega, by omega, by omega, by simp (disch := omega) only [go_sem, a1], by simp (disch := omega) only [go_sem, a2], by simp (disch := omega) only [go_sem, a3], by simp (disch := omega) only [go_sem]; rw [← hself], by simp (disch := omega) only [go_sem], by simp (disch := omega) only [go_sem, ho]⟩ ?_
  clear a1 a2 a3 a7 ho hnx
  rintro m a o nx ⟨u, hu, hu2, rfl, hnx, a1, a2, a3, a8, a9, ho⟩
  have e1 := hends _ ((hlI u).trans hb)
  rw [hit u] at e1
  have l3 := hlI u
  have l4 := hlI (u + 1)
  have l5 := hlR u
  have l6 := hlR (u + 1)
  have e2 := hboth (u7 (bk7 t u M) b) (u7 (Iter M (u + 1)) b) (by omega) (by omega)
  rw [au6, t7 (fun i j => (bB7 hu M i j).symm)] at e2
  generalize Z5 (u7 (bk7 t u M) b) (u7 (Iter M (u + 1)) b) = q at e2
  by_cases hlt2 : u < hi
  ·simp (disch := omega) only [go_sem, a1, a2, a3, a8, a9, ho, e1, e2]
   exact ⟨_, by omega, u + 1, by omega, by omega, rfl, rfl, rfl, rfl⟩
  ·have hue : u = hi := by omega
   subst hue
   clear e1 e2
   simp (disch := omega) only [go_sem, a1, a2, a3, a8, a9, ho]
set_option maxRecDepth 20000
def nzE : Nat → Option (List (Nat × Nat))
 | 7 => some [(23, 28)]
 | _ => none
theorem Z1 (X) : d9 (EX md0 X) nzE 3 Tryd.f54 = true := by kernel_rfl
abbrev cr1 (r : AV) : n8 := fun u a o nx => (u = .normal ∨ u = .ret) ∧ wO (n7 Tryd.prog a ⟨o, nx⟩ Tryd.f54.results.toList) (fun vs => view o p6 (ab9 vs) = r)
def aT8 (w : List Int) (s : Int) (b : List Bool) (i : Nat) : List Bool := (List.range b.length).map fun j => decide (1 ≤ j ∧ j ≤ i) && (b.getD (j - 1) false && X0 s (w.getD (j - 1) 0))
theorem D9 (w s b i) : (aT8 w s b i).length = b.length := by simp [aT8]
theorem bB9 (w s b) : aT8 w s b 0 = List.replicate b.length false := O4 (by rw [D9]; simp) fun j hj => by
 rw [aT8, B1, decide_eq_false (by omega : ¬ (1 ≤ j ∧ j ≤ 0))]
 simp only [Bool.false_and, Bool.and_false, Bool.false_eq_true, false_iff]
 rw [List.getD_eq_getElem?_getD, List.getElem?_replicate]
 split <;> simp
theorem bC0 (w s) (b : List Bool) (i : Nat) (h : i + 1 < b.length) : aT8 w s b (i + 1) = (aT8 w s b i).set (i + 1) (b.getD i false && X0 s (w.getD i 0)) := by
 refine O4 (by rw [List.length_set, D9, D9]) fun j hj => ?_
 rw [List.length_set, D9] at hj
 rw [af3, D9, aT8, aT8, B1, B1]
 by_cases e : i + 1 = j
 ·subst e
  rw [if_pos ⟨rfl, hj⟩, decide_eq_true (by omega : 1 ≤ i + 1 ∧ i + 1 ≤ i + 1), decide_eq_true hj]
  simp
 ·rw [if_neg (fun h => e h.1)]
  have : decide (1 ≤ j ∧ j ≤ i + 1) = decide (1 ≤ j ∧ j ≤ i) := by
   rw [Bool.eq_iff_iff, decide_eq_true_eq, decide_eq_true_eq]; omega
  rw [this]
theorem bC1 (w : List Int) (s lo hi : Int) (b : List Bool) (hb : b.length = w.length + 1) : aT8 w s b w.length = u7 (Mt w (.mk 1 s lo hi [])) b := by
 refine au4 (D9 _ _ _ _) fun j hj => ?_
 rw [aT8, B1, decide_eq_true hj, Bool.true_and, Bool.and_eq_true, decide_eq_true_eq, Bool.and_eq_true]
 constructor
 ·rintro ⟨⟨h1, h2⟩, h3, h4⟩
  refine ⟨j - 1, h3, ?_⟩
  rw [T4, if_pos rfl]
  exact ⟨by omega, by omega, h4⟩
 ·rintro ⟨i, h1, h2⟩
  rw [T4, if_pos rfl] at h2
  obtain ⟨rfl, h3, h4⟩ := h2
  exact ⟨⟨by omega, by omega⟩, by simpa using h1, by simpa using h4⟩
theorem bS2 (w : List Int) (hw : w.length ≤ 1000000) (s : Int) (b : List Bool) (hb : b.length = w.length + 1) (X : FuncId → List AV → Option AV) :
  WP (EX md0 X) noR 10000010 nzE (Tryd.f54.body.getD .skip) (v7 [f6 (.mk 1 s 0 0 []), slI w, slB b]) (fun _ => none) 0 (cr1 (slB (u7 (Mt w (.mk 1 s 0 0 [])) b))) := by
 rw [← bC1 w s 0 0 b hb]
 have hz := G8 b.length
 have hol : ∀ i, (aT8 w s b i).length = b.length := D9 w s b
 simp only [Tryd.f54, Option.getD_some, f6, n5]
 simp (disch := omega) only [go_sem, hz]
 refine p9 (fun m a o nx => ∃ i : Nat, i ≤ w.length ∧ m = w.length - i ∧ 2 ≤ nx ∧ a 1 = slI w ∧ a 2 = slB b ∧ a 3 = .ptr (0, 3) (0, 3) 0 ∧ a 7 = .ref (1, 13) (1, 13) 0 b.length ∧ a 8 = .int .i64 i ∧ o (0, 3) = some (.row ⟨37, 1, (0, 3), false, true, [.int .i64 1, .int .i64 s, .int .i64 0, .int .i64 0, slN []]⟩) ∧ o (1, 13) = some (.row ⟨4, 1, (1, 13), false, true, cB (aT8 w s b i)⟩)) w.length (by omega) ⟨0, by omega, by omega, by omega, by simp (disch := omega) only [go_sem], by simp (disch := omega) only [go_sem], by simp (disch := omega) only [go_sem], by simp (disch := omega) only [go_sem], by simp (disch := omega) only [go_sem], by simp (disch := omega) only [go_sem], by simp (disch := omega) only [go_sem]; rw [bB9]⟩ ?_
 rintro m a o nx ⟨i, hi, rfl, hnx, a1, a2, a3, a7, a8, ho3, ho13⟩
 by_cases hlt : i < w.length
 ·have hgb := R3 (l := b) (s := 1) (show i < b.length by omega)
  have hgw := Z8 (s := 1) hlt
  have hsn := bC0 w s b i (by omega)
  have hset := aJ0 (aT8 w s b i) (i + 1) (b.getD i false && X0 s (w.getD i 0)) (by rw [D9]; omega)
  have hoi := hol i
  unfold X0 at hset hsn
  generalize w.getD i 0 = m at hgw hsn hset
  cases hb1 : b.getD i false with
  | false =>
   rw [hb1] at hgb hsn hset
   simp only [Bool.false_and] at hsn hset
   simp (disch := omega) only [go_sem, a1, a2, a3, a7, a8, ho3, ho13, nzE, hgb, hgw, hset, hoi]
   exact ⟨_, by omega, i + 1, by omega, rfl, rfl, by rw [hsn]⟩
  | true =>
   rw [hb1] at hgb hsn hset
   by_cases hm0 : 0 ≤ m
   ·by_cases hm5 : m < 5
    ·cases hm : J6 s m with
     | true =>
      rw [hm, decide_eq_true hm0, decide_eq_true hm5] at hsn hset
      simp only [J6, decide_eq_true_eq] at hm
      simp only [Bool.and_self] at hsn hset
      simp (disch := omega) only [go_sem, a1, a2, a3, a7, a8, ho3, ho13, nzE, hgb, hgw, hset, hm0, hm5, hm, hoi]
      exact ⟨_, by omega, i + 1, by omega, rfl, rfl, by rw [hsn]⟩
     | false =>
      rw [hm, decide_eq_true hm0, decide_eq_true hm5] at hsn hset
      simp only [J6, decide_eq_false_iff_not] at hm
      simp only [Bool.and_false] at hsn hset
      simp (disch := omega) only [go_sem, a1, a2, a3, a7, a8, ho3, ho13, nzE, hgb, hgw, hset, hm0, hm5, hm, hoi]
      exact ⟨_, by omega, i + 1, by omega, rfl, rfl, by rw [hsn]⟩
    ·rw [decide_eq_true hm0, decide_eq_false hm5] at hsn hset
     simp only [Bool.and_false, Bool.false_and] at hsn hset
     simp (disch := omega) only [go_sem, a1, a2, a3, a7, a8, ho3, ho13, nzE, hgb, hgw, hset, hoi]
     exact ⟨_, by omega, i + 1, by omega, rfl, rfl, by rw [hsn]⟩
   ·rw [decide_eq_false hm0] at hsn hset
    simp only [Bool.and_false, Bool.false_and] at hsn hset
    simp (disch := omega) only [go_sem, a1, a2, a3, a7, a8, ho3, ho13, nzE, hgb, hgw, hset, hoi]
    exact ⟨_, by omega, i + 1, by omega, rfl, rfl, by rw [hsn]⟩
 ·have hie : i = w.length := by omega
  rw [hie] at ho13
  have hoi := hol w.length
  have htk : (cB (aT8 w s b w.length)).take b.length = cB (aT8 w s b w.length) := f7 (by rw [z8, hoi])
  simp (disch := omega) only [go_sem, a1, a2, a3, a7, a8, ho3, ho13]
  refine ⟨.inr rfl, ?_⟩
  simp only [Tryd.f54]
  simp (disch := omega) only [go_sem, hoi, htk, ho13]
  rw [slB, hoi]
theorem bC2 (w : List Int) (k : Int) (hk : k = 2 ∨ k = 3) (b : List Bool) (hb : b.length ≤ 1000001) (X : FuncId → List AV → Option AV) :
  WP (EX md0 X) noR 10000010 nzE (Tryd.f54.body.getD .skip) (v7 [f6 (.mk k 0 0 0 []), slI w, slB b]) (fun _ => none) 0 (cr1 (slB (u7 (Mt w (.mk k 0 0 0 [])) b))) := by
 have hz := G8 b.length
 simp only [Tryd.f54, Option.getD_some, f6, n5]
 rcases hk with rfl | rfl
 ·have e : u7 (Mt w (.mk 2 0 0 0 [])) b = List.replicate b.length false := by
   rw [← aj0]
   exact t7 (fun i j => by rw [T4]; simp)
  have htk : (cB (List.replicate b.length false)).take b.length = cB (List.replicate b.length false) := f7 (by simp [cB])
  rw [e]
  simp (disch := omega) only [go_sem, hz]
  refine ⟨.inr rfl, ?_⟩
  simp only [Tryd.f54]
  simp (disch := omega) only [go_sem, htk]
  rw [slB, List.length_replicate]
 ·have e : u7 (Mt w (.mk 3 0 0 0 [])) b = b := (t7 (fun i j => by rw [T4]; simp)).trans (X2 b)
  rw [e]
  simp (disch := omega) only [go_sem, hz]
  refine ⟨.inr rfl, ?_⟩
  simp only [Tryd.f54]
  simp (disch := omega) only [go_sem]
theorem aE8 (w : List Int) (x : Nd) : ∀ (l : List Nd) (i j : Nat), MtJ w (l ++ [x]) i j ↔ ∃ k, MtJ w l i k ∧ Mt w x k j
 | [], i, j => by
  rw [List.nil_append, MtJ, MtJ, MtJ]
  exact ⟨fun ⟨k, h1, h2⟩ => ⟨i, rfl, by obtain rfl : k = j := h2; exact h1⟩, fun ⟨k, h1, h2⟩ => ⟨j, by obtain rfl : i = k := h1; exact h2, rfl⟩⟩
 | y :: l, i, j => by
  rw [List.cons_append, MtJ, MtJ]
  constructor
  ·rintro ⟨k, h1, h2⟩
   obtain ⟨k', h3, h4⟩ := (aE8 w x l k j).1 h2
   exact ⟨k', ⟨k, h1, h3⟩, h4⟩
  ·rintro ⟨k', ⟨k, h1, h3⟩, h4⟩
   exact ⟨k, h1, (aE8 w x l k j).2 ⟨k', h3, h4⟩⟩
theorem bb8 (w : List Int) (x : Nd) : ∀ (l : List Nd) (i j : Nat), MtU w (l ++ [x]) i j ↔ MtU w l i j ∨ Mt w x i j
 | [], i, j => by rw [List.nil_append, MtU, MtU]; exact or_comm
 | y :: l, i, j => by
  rw [List.cons_append, MtU, MtU]
  show (Mt w y i j ∨ MtU w (l ++ [x]) i j) ↔ (Mt w y i j ∨ MtU w l i j) ∨ Mt w x i j
  rw [bb8 w x l]
  exact or_assoc.symm
theorem bX2 (w : List Int) : ∀ (l : List Nd) (i j : Nat), MtJ w l i j → i ≤ w.length → j ≤ w.length
 | [], i, j, h, hi => by rw [MtJ] at h; obtain rfl : i = j := h; exact hi
 | x :: l, i, j, h, hi => by
  rw [MtJ] at h
  obtain ⟨k, h1, h2⟩ := h
  exact bX2 w l k j h2 (bR8 w x i k h1 hi)
theorem bC3 (w : List Int) (hw : w.length ≤ 1000000) (l : List Nd) (hl : l.length ≤ 1000) (b : List Bool) (hb : b.length = w.length + 1) (X : FuncId → List AV → Option AV) (hch : ∀ i, i < l.length → ∀ c : List Bool, c.length = w.length + 1 → X 54 [f6 (l.getD i default), slI w, slB c] = some (slB (u7 (Mt w (l.getD i default)) c))) :
  WP (EX md0 X) noR 10000010 nzE (Tryd.f54.body.getD .skip) (v7 [f6 (.mk 4 0 0 0 l), slI w, slB b]) (fun _ => none) 0 (cr1 (slB (u7 (Mt w (.mk 4 0 0 0 l)) b))) := by
 have hz := G8 b.length
 have e0 : u7 (MtJ w []) b = b := (t7 (fun i j => by rw [MtJ])).trans (X2 b)
 have e1 : u7 (Mt w (.mk 4 0 0 0 l)) b = u7 (MtJ w l) b := t7 (fun i j => by rw [T4]; simp)
 rw [e1]
 simp only [Tryd.f54, Option.getD_some, f6, n5]
 simp (disch := omega) only [go_sem, hz]
 refine p9 (fun m a o nx => ∃ i : Nat, i ≤ l.length ∧ m = l.length - i ∧ 2 ≤ nx ∧ a 1 = slI w ∧ a 3 = .ptr (0, 3) (0, 3) 0 ∧ a 7 = slB (u7 (MtJ w (l.take i)) b) ∧ a 9 = .int .i64 i ∧ o (0, 3) = some (.row ⟨37, 1, (0, 3), false, true, [.int .i64 4, .int .i64 0, .int .i64 0, .int .i64 0, slN l]⟩)) l.length (by omega) ⟨0, by omega, by omega, by omega, by simp (disch := omega) only [go_sem], by simp (disch := omega) only [go_sem], by simp (disch := omega) only [go_sem]; rw [e0], by simp (disch := omega) only [go_sem], by simp (disch := omega) only [go_sem]⟩ ?_
 rintro m a o nx ⟨i, hi, rfl, hnx, a1, a3, a7, a9, ho⟩
 by_cases hlt : i < l.length
 ·have hat := aC2 hlt
  have hl1 : (u7 (MtJ w (l.take i)) b).length = b.length := l8 _ _
  have hci := hch i hlt _ (hl1.trans hb)
  rw [au5 (fun i k hm hi => by have := bX2 w _ i k hm (by omega); omega)] at hci
  have hsn : u7 (MtJ w (l.take (i + 1))) b = u7 (fun p q => ∃ k, MtJ w (l.take i) p k ∧ Mt w (l.getD i default) k q) b := by
   rw [r7 hlt default]
   exact t7 (fun p q => aE8 w _ _ p q)
  rw [← hsn] at hci
  simp only [f6] at hci
  clear hsn
  generalize l.getD i default = x at *
  simp (disch := omega) only [go_sem, a1, a3, a7, a9, ho, hat, hci]
  exact ⟨_, by omega, i + 1, by omega, rfl, rfl, rfl⟩
 ·have hie : i = l.length := by omega
  rw [hie, List.take_length] at a7
  simp (disch := omega) only [go_sem, a1, a3, a7, a9, ho]
  refine ⟨.inr rfl, ?_⟩
  simp only [Tryd.f54]
  simp (disch := omega) only [go_sem]
theorem bj6 (w : List Int) (hw : w.length ≤ 1000000) (l : List Nd) (h0 : l ≠ []) (hl : l.length ≤ 1000) (b : List Bool) (hb : b.length = w.length + 1) (X : FuncId → List AV → Option AV) (hch : ∀ i, i < l.length → ∀ c : List Bool, c.length = w.length + 1 → X 54 [f6 (l.getD i default), slI w, slB c] = some (slB (u7 (Mt w (l.getD i default)) c)))
  (hboth : ∀ a c : List Bool, c.length = a.length → a.length ≤ 10000000 → X 82 [slB a, slB c] = some (.tup [slB (orB a c), .bool (Z5 a c)])) :
  WP (EX md0 X) noR 10000010 nzE (Tryd.f54.body.getD .skip) (v7 [f6 (.mk 5 0 0 0 l), slI w, slB b]) (fun _ => none) 0 (cr1 (slB (u7 (Mt w (.mk 5 0 0 0 l)) b))) := by
 have hz := G8 b.length
 have e0 : u7 (MtU w []) b = List.replicate b.length false := (t7 (fun i j => by rw [MtU])).trans (aj0 b)
 have e1 : u7 (Mt w (.mk 5 0 0 0 l)) b = u7 (MtU w l) b := t7 (fun i j => by rw [T4]; simp)
 have hlp : l.length ≠ 0 := fun e => h0 (List.length_eq_zero_iff.1 e)
 have htk : (cB (List.replicate b.length false)).take b.length = cB (List.replicate b.length false) := f7 (by simp [cB])
 have hlr : (List.replicate b.length false).length = b.length := List.length_replicate
 rw [e1]
 simp only [Tryd.f54, Option.getD_some, f6, n5]
 simp (disch := omega) only [go_sem, hz]
 refine p9 (fun m a o nx => ∃ i : Nat, i ≤ l.length ∧ m = l.length - i ∧ 2 ≤ nx ∧ a 1 = slI w ∧ a 2 = slB b ∧ a 3 = .ptr (0, 3) (0, 3) 0 ∧ ((0 < i ∧ a 7 = slB (u7 (MtU w (l.take i)) b)) ∨ (i = 0 ∧ a 7 = .ref (1, 13) (1, 13) 0 b.length ∧ o (1, 13) = some (.row ⟨4, 1, (1, 13), false, true, cB (List.replicate b.length false)⟩))) ∧ a 10 = .int .i64 i ∧ o (0, 3) = some (.row ⟨37, 1, (0, 3), false, true, [.int .i64 5, .int .i64 0, .int .i64 0, .int .i64 0, slN l]⟩)) l.length (by omega) ⟨0, by omega, by omega, by omega, by simp (disch := omega) only [go_sem], by simp (disch := omega) only [go_sem], by simp (disch := omega) only [go_sem], .inr ⟨rfl, by simp (disch := omega) only [go_sem], by simp (disch := omega) only [go_sem]⟩, by simp (disch := omega) only [go_sem], by simp (disch := omega) only [go_sem]⟩ ?_
 rintro m a o nx ⟨i, hi, rfl, hnx, a1, a2, a3, h7, a10, ho⟩
 by_cases hlt : i < l.length
 ·have hat := aC2 hlt
  have hl1 : (u7 (MtU w (l.take i)) b).length = b.length := l8 _ _
  have hl3 : (u7 (MtU w (l.take (i + 1))) b).length = b.length := l8 _ _
  have hl2 : (u7 (Mt w (l.getD i default)) b).length = b.length := l8 _ _
  have hci := hch i hlt _ hb
  have hbo := hboth (u7 (MtU w (l.take i)) b) (u7 (Mt w (l.getD i default)) b) (by omega) (by omega)
  have hsn : u7 (MtU w (l.take (i + 1))) b = u7 (fun p q => MtU w (l.take i) p q ∨ Mt w (l.getD i default) p q) b := by
   rw [r7 hlt default]
   exact t7 (fun p q => bb8 w _ _ p q)
  rw [au6, ← hsn] at hbo
  generalize Z5 (u7 (MtU w (l.take i)) b) (u7 (Mt w (l.getD i default)) b) = q at hbo
  simp only [f6] at hci
  clear hsn
  rcases h7 with ⟨h0, a7⟩ | ⟨rfl, a7, ho7⟩
  ·generalize l.getD i default = x at *
   simp (disch := omega) only [go_sem, a1, a2, a3, a7, a10, ho, hat, hci, hbo]
   exact ⟨_, by omega, i + 1, by omega, rfl, ⟨by omega, rfl⟩, rfl⟩
  ·rw [List.take_zero, e0] at hbo
   simp only [slB, hlr] at hbo
   generalize l.getD 0 default = x at *
   rw [Nat.zero_mul] at hat
   rw [List.drop_zero] at hat
   simp (disch := omega) only [go_sem, a1, a2, a3, a7, a10, ho, ho7, hat, hci, hbo, htk]
   exact ⟨_, by omega, 1, by omega, rfl, ⟨by omega, rfl⟩, rfl⟩
 ·have hie : i = l.length := by omega
  rcases h7 with ⟨h0, a7⟩ | ⟨rfl, a7, ho7⟩
  ·rw [hie, List.take_length] at a7
   simp (disch := omega) only [go_sem, a1, a2, a3, a7, a10, ho]
   refine ⟨.inr rfl, ?_⟩
   simp only [Tryd.f54]
   simp (disch := omega) only [go_sem]
  ·omega
def dr1 (w : List Int) (x : Nd) (args : List AV) (r : AV) : Prop := ∃ b : List Bool, b.length = w.length + 1 ∧ args = [f6 x, slI w, slB b, .int .i64 0] ∧ r = slB (u7 (au7 (Mt w x)) b)
theorem cj9 (w x) : K5 (dr1 w x) := by
 rintro args r r' ⟨b, _, rfl, rfl⟩ ⟨b', _, h, rfl⟩
 simp only [List.cons.injEq, AV.sl.injEq, and_true, true_and] at h
 rw [ad0 h.2]
def RRp (w : List Int) (x : Nd) (lo hi : Nat) (args : List AV) (r : AV) : Prop := ∃ b : List Bool, b.length = w.length + 1 ∧ args = [f6 (.mk 9 0 lo hi [x]), slI w, slB b] ∧ r = slB (u7 (bk7 lo hi (Mt w x)) b)
theorem cG4 (w x lo hi) : K5 (RRp w x lo hi) := by
 rintro args r r' ⟨b, _, rfl, rfl⟩ ⟨b', _, h, rfl⟩
 simp only [List.cons.injEq, AV.sl.injEq, and_true, true_and] at h
 rw [ad0 h.2]
theorem aE9 (w : List Int) (x : Nd) : MtH w [x] = Mt w x := by rw [MtH]
theorem bC4 (w : List Int) (hw : w.length ≤ 1000000) (k : Int) (hk : k = 6 ∨ k = 7 ∨ k = 8) (x : Nd) (b : List Bool) (hb : b.length = w.length + 1) (X : FuncId → List AV → Option AV) (hch : X 54 [f6 x, slI w, slB b] = some (slB (u7 (Mt w x) b)))
  (hboth : ∀ a c : List Bool, c.length = a.length → a.length ≤ 10000000 → X 82 [slB a, slB c] = some (.tup [slB (orB a c), .bool (Z5 a c)])) (hoft : X 83 [f6 x, slI w, slB b, .int .i64 0] = some (slB (u7 (au7 (Mt w x)) b))) :
  WP (EX md0 X) noR 10000010 nzE (Tryd.f54.body.getD .skip) (v7 [f6 (.mk k 0 0 0 [x]), slI w, slB b]) (fun _ => none) 0 (cr1 (slB (u7 (Mt w (.mk k 0 0 0 [x])) b))) := by
 have hz := G8 b.length
 have hat : K7 [x] = cNd x ++ [] := by rw [B4, List.append_nil]
 simp only [f6] at hch hoft
 simp only [Tryd.f54, Option.getD_some, f6, n5, slN, List.length_singleton, hat]
 have hl1 : (u7 (au7 (Mt w x)) b).length = b.length := l8 _ _
 have hl2 : (u7 (Mt w x) b).length = b.length := l8 _ _
 rcases hk with rfl | rfl | rfl
 ·have e : u7 (Mt w (.mk 6 0 0 0 [x])) b = orB b (u7 (au7 (Mt w x)) b) := by
   conv => rhs; rw [← X2 b, X2 b]
   have := au6 (fun i j => i = j) (au7 (Mt w x)) b
   rw [X2] at this
   rw [this]
   refine t7 (fun i j => ?_)
   rw [T4, if_neg (by decide), if_neg (by decide), if_neg (by decide), if_neg (by decide), if_pos rfl, aE9]
   constructor
   ·rintro ⟨m, h⟩
    cases m with
    | zero => exact .inl h
    | succ m => exact .inr ⟨m + 1, by omega, h⟩
   ·rintro (h | ⟨m, _, h⟩)
    ·exact ⟨0, h⟩
    ·exact ⟨m, h⟩
  have hbo := hboth b (u7 (au7 (Mt w x)) b) (by omega) (by omega)
  rw [← e] at hbo
  generalize Z5 b (u7 (au7 (Mt w x)) b) = q at hbo
  simp (disch := omega) only [go_sem, hz, hoft, hbo]
  refine ⟨.inr rfl, ?_⟩
  simp only [Tryd.f54]
  simp (disch := omega) only [go_sem]
 ·have e : u7 (Mt w (.mk 7 0 0 0 [x])) b = u7 (au7 (Mt w x)) b := by
   refine t7 (fun i j => ?_)
   rw [T4, if_neg (by decide), if_neg (by decide), if_neg (by decide), if_neg (by decide), if_neg (by decide), if_pos rfl, aE9]
   exact Iff.rfl
  rw [← e] at hoft
  simp (disch := omega) only [go_sem, hz, hoft]
  refine ⟨.inr rfl, ?_⟩
  simp only [Tryd.f54]
  simp (disch := omega) only [go_sem]
 ·have e : u7 (Mt w (.mk 8 0 0 0 [x])) b = orB b (u7 (Mt w x) b) := by
   have := au6 (fun i j => i = j) (Mt w x) b
   rw [X2] at this
   rw [this]
   refine t7 (fun i j => ?_)
   rw [T4, if_neg (by decide), if_neg (by decide), if_neg (by decide), if_neg (by decide), if_neg (by decide), if_neg (by decide), if_pos rfl, aE9]
   constructor
   ·rintro ⟨m, h0, h⟩
    match m, h0, h with
    | 0, _, h => exact .inl h
    | 1, _, ⟨k, h1, h2⟩ => exact .inr (by obtain rfl : k = j := h2; exact h1)
   ·rintro (h | h)
    ·exact ⟨0, by omega, h⟩
    ·exact ⟨1, by omega, j, h, rfl⟩
  have hbo := hboth b (u7 (Mt w x) b) (by omega) (by omega)
  rw [← e] at hbo
  generalize Z5 b (u7 (Mt w x) b) = q at hbo
  simp (disch := omega) only [go_sem, hz, hch, hbo]
  refine ⟨.inr rfl, ?_⟩
  simp only [Tryd.f54]
  simp (disch := omega) only [go_sem]
theorem bS3 (w : List Int) (hw : w.length ≤ 1000000) (lo hi : Nat) (x : Nd) (b : List Bool) (hb : b.length = w.length + 1) (X : FuncId → List AV → Option AV) (hrep : X 84 [f6 (.mk 9 0 lo hi [x]), slI w, slB b] = some (slB (u7 (bk7 lo hi (Mt w x)) b))) :
  WP (EX md0 X) noR 10000010 nzE (Tryd.f54.body.getD .skip) (v7 [f6 (.mk 9 0 lo hi [x]), slI w, slB b]) (fun _ => none) 0 (cr1 (slB (u7 (Mt w (.mk 9 0 lo hi [x])) b))) := by
 have hz := G8 b.length
 have e : u7 (Mt w (.mk 9 0 lo hi [x])) b = u7 (bk7 lo hi (Mt w x)) b := by
  refine t7 (fun i j => ?_)
  rw [T4, if_neg (by decide), if_neg (by decide), if_neg (by decide), if_neg (by decide), if_neg (by decide), if_neg (by decide), if_neg (by decide), if_pos rfl, aE9]
  exact exists_congr fun m => and_congr (by omega) (and_congr (by omega) Iff.rfl)
 rw [← e] at hrep
 simp only [f6, n5, slN, List.length_singleton, B4] at hrep
 simp only [Tryd.f54, Option.getD_some, f6, n5, slN, List.length_singleton, B4]
 simp (disch := omega) only [go_sem, hz, hrep]
 refine ⟨.inr rfl, ?_⟩
 simp only [Tryd.f54]
 simp (disch := omega) only [go_sem]
noncomputable def XE (w : List Int) (l : List Nd) (lo hi : Nat) : FuncId → List AV → Option AV := p4 [(54, A4 (dc4 w l)), (82, A4 bS0), (83, A4 (dr1 w (l.getD 0 default))), (84, A4 (RRp w (l.getD 0 default) lo hi))]
theorem bC5 (w : List Int) (hw : w.length ≤ 1000000) : ∀ (n : Nd), B5 n = true → ah5 n = true → ∀ b : List Bool, b.length = w.length + 1 → Ok Tryd.prog 54 [f6 n, slI w, slB b] (slB (u7 (Mt w n) b))
 | .mk k s lo hi l, hr, hwi, b, hb => by
  obtain ⟨hx, hc⟩ := w8 hr
  rw [ah5, Bool.and_eq_true, decide_eq_true_eq] at hwi
  have hkids : bb6 w l := fun i hil c hcl => by
   have := ay7 hil k s lo hi
   exact bC5 w hw (l.getD i default) (hx _ (by rw [List.getD_eq_getElem?_getD, List.getElem?_eq_getElem hil]; exact List.getElem_mem hil)) (bq2 hwi.2 hil) c hcl
  rcases hc with ⟨rfl, rfl, rfl, rfl, h0, h1⟩ | ⟨hk, rfl, rfl, rfl, rfl⟩ | ⟨hk, rfl, rfl, rfl, y1, y2, r, rfl⟩ | ⟨hk, rfl, rfl, rfl, x, rfl⟩ | ⟨rfl, rfl, h0, h1, h2, x, rfl⟩
  ·exact k0 (E := EX md0 (fun _ _ => none)) (cr := noR) (z7 _) (m6 _) mixed (k := 10000010) Tryd.func54 (Z1 _) rfl (bS2 w hw s b hb _)
  ·exact k0 (E := EX md0 (fun _ _ => none)) (cr := noR) (z7 _) (m6 _) mixed (k := 10000010) Tryd.func54 (Z1 _) rfl (bC2 w k hk b (by omega) _)
  ·have hX := bB5 hkids
   rcases hk with rfl | rfl
   ·exact k0 (E := EX md0 (XKm w (y1 :: y2 :: r))) (cr := noR) hX (m6 _) mixed (k := 10000010) Tryd.func54 (Z1 _) rfl (bC3 w hw _ hwi.1 b hb _ (fun i hi c hc => aE7 hi hc))
   ·exact k0 (E := EX md0 (XKm w (y1 :: y2 :: r))) (cr := noR) hX (m6 _) mixed (k := 10000010) Tryd.func54 (Z1 _) rfl (bj6 w hw _ (by simp) hwi.1 b hb _ (fun i hi c hc => aE7 hi hc) (fun a c => aT7))
  ·have hX : m9 Tryd.prog (XE w [x] 0 0) := f9 (f9 (f9 (f9 (p7 _) (l9 (fun args r h' => by obtain ⟨c, h1, rfl, rfl⟩ := h'; exact aM7 w hw x hkids 0 0 (by omega) (by omega) c h1))) (l9 (fun args r h' => by obtain ⟨c, h1, rfl, rfl⟩ := h'; exact bb7 w hw x hkids c h1))) (l9 aE6)) (l9 (fun args r h' => by obtain ⟨i, c, h1, h2, rfl, rfl⟩ := h'; exact hkids i h1 c h2))
   exact k0 (E := EX md0 (XE w [x] 0 0)) (cr := noR) hX (m6 _) mixed (k := 10000010) Tryd.func54 (Z1 _) rfl (bC4 w hw k hk x b hb _ (m5 (bB4 w [x]) ⟨0, b, by simp, hb, rfl, rfl⟩) (fun a c h1 h2 => m5 bb5 ⟨a, c, h1, h2, rfl, rfl⟩) (m5 (cj9 w x) ⟨b, hb, rfl, rfl⟩))
  ·obtain ⟨lo', rfl⟩ : ∃ n : Nat, lo = n := ⟨lo.toNat, by omega⟩
   obtain ⟨hi', rfl⟩ : ∃ n : Nat, hi = n := ⟨hi.toNat, by omega⟩
   have hX : m9 Tryd.prog (XE w [x] lo' hi') := f9 (f9 (f9 (f9 (p7 _) (l9 (fun args r h' => by obtain ⟨c, h1', rfl, rfl⟩ := h'; exact aM7 w hw x hkids lo' hi' (by omega) (by omega) c h1'))) (l9 (fun args r h' => by obtain ⟨c, h1, rfl, rfl⟩ := h'; exact bb7 w hw x hkids c h1))) (l9 aE6)) (l9 (fun args r h' => by obtain ⟨i, c, h1, h2, rfl, rfl⟩ := h'; exact hkids i h1 c h2))
   exact k0 (E := EX md0 (XE w [x] lo' hi')) (cr := noR) hX (m6 _) mixed (k := 10000010) Tryd.func54 (Z1 _) rfl (bS3 w hw lo' hi' x b hb _ (m5 (cG4 w x lo' hi') ⟨b, hb, rfl, rfl⟩))
termination_by n => SizeOf.sizeOf n
decreasing_by
 exact this
theorem bC6 (X) : d9 (EX md0 X) (fun r => if r = 1 then some [(0, 5)] else none) 2 Tryd.f28 = true := by kernel_rfl
open Classical in
noncomputable def T8 (n : Nd) (w : List Int) : Bool := decide (Mt w n 0 w.length)
def cQ6 (n : Nd) (w : List Int) (args : List AV) (r : AV) : Prop := ∃ b : List Bool, b.length = w.length + 1 ∧ args = [f6 n, slI w, slB b] ∧ r = slB (u7 (Mt w n) b)
theorem ck0 (n w) : K5 (cQ6 n w) := by
 rintro args r r' ⟨b, _, rfl, rfl⟩ ⟨b', _, h, rfl⟩
 simp only [List.cons.injEq, AV.sl.injEq, and_true, true_and] at h
 rw [ad0 h.2]
def cQ7 (args : List AV) (r : AV) : Prop := ∃ n : Nat, 0 < n ∧ n ≤ 10000000 ∧ args = [.int .i64 n, .int .i64 0] ∧ r = slB (aE5 n)
theorem ck1 : K5 cQ7 := by
 rintro args r r' ⟨n, _, _, rfl, rfl⟩ ⟨n', _, _, h, rfl⟩
 simp only [List.cons.injEq, AV.int.injEq, and_true, true_and] at h
 have : n = n' := by omega
 rw [this]
theorem bS4 (n : Nd) (w : List Int) (hr : B5 n = true) (hwi : ah5 n = true) (hw : w.length ≤ 1000000) : Ok Tryd.prog 28 [f6 n, slI w] (.bool (T8 n w)) := by
 refine k0 (E := EX md0 (p4 [(54, A4 (cQ6 n w)), (55, A4 cQ7)])) (cr := noR) (f9 (f9 (p7 _) (l9 (fun args r h => by obtain ⟨m, h1, h2, rfl, rfl⟩ := h; exact cj7 m h1 h2))) (l9 (fun args r h => by obtain ⟨b, h1, rfl, rfl⟩ := h; exact bC5 w hw n hr hwi b h1))) (m6 _) mixed (k := 10) Tryd.func28 (bC6 _) rfl ?_
 have hol : (aE5 (w.length + 1)).length = w.length + 1 := by simp [aE5]
 have e1 : p4 [(54, A4 (cQ6 n w)), (55, A4 cQ7)] 55 [.int .i64 ((w.length + 1 : Nat) : Int), .int .i64 0] = some (slB (aE5 (w.length + 1))) := m5 ck1 ⟨w.length + 1, by omega, by omega, rfl, rfl⟩
 have e2 : p4 [(54, A4 (cQ6 n w)), (55, A4 cQ7)] 54 [f6 n, slI w, slB (aE5 (w.length + 1))] = some (slB (u7 (Mt w n) (aE5 (w.length + 1)))) := m5 (ck0 n w) ⟨_, hol, rfl, rfl⟩
 have e3 : ((w.length + 1 : Nat) : Int) = (w.length : Int) + 1 := by omega
 rw [e3] at e1
 have hel : (u7 (Mt w n) (aE5 (w.length + 1))).length = w.length + 1 := by rw [l8, hol]
 have hone : ∀ i, (aE5 (w.length + 1)).getD i false = true ↔ i = 0 := fun i => by
  rw [aE5, af3]
  split
  ·rename_i h; exact ⟨fun _ => h.1.symm, fun _ => rfl⟩
  ·rename_i h
   have : (List.replicate (w.length + 1) false).getD i false = false := by
    rw [List.getD_eq_getElem?_getD, List.getElem?_replicate]
    split <;> rfl
   rw [this]
   constructor
   ·intro h'; cases h'
   ·rintro rfl
    exact absurd ⟨rfl, by simp⟩ h
 have hget := R3 (l := u7 (Mt w n) (aE5 (w.length + 1))) (i := w.length) (s := 1) (by omega)
 have hm : (u7 (Mt w n) (aE5 (w.length + 1))).getD w.length false = T8 n w := by
  classical
  rw [Bool.eq_iff_iff, H5, hol, T8, decide_eq_true_eq]
  constructor
  ·rintro ⟨_, i, h1, h2⟩
   rw [hone] at h1
   subst h1
   exact h2
  ·exact fun h => ⟨by omega, 0, (hone 0).2 rfl, h⟩
 rw [hm] at hget
 obtain ⟨k, s, lo, hi, l⟩ := n
 simp only [f6, n5] at e2
 simp only [Tryd.f28, Option.getD_some, f6, n5]
 generalize u7 (Mt w (.mk k s lo hi l)) (aE5 (w.length + 1)) = R at *
 generalize aE5 (w.length + 1) = O at *
 have n1 : (1 : Nat) = 1 := rfl
 simp (disch := omega) only [go_sem, e1, e2, hget, hel]
end Go.Proofs.YtpmjpogcaglphaaDoor.A
