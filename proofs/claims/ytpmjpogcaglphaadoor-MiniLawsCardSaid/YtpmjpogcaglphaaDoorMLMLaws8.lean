/- Trees: raw expressions, nodes, their cells; the expression of a raw one. -/
import Derived.Test.YtpmjpogcaglphaaDoorMLMLaws7
set_option linter.unusedVariables false
set_option linter.unusedSimpArgs false
set_option linter.unnecessarySimpa false
namespace Go.Proofs.YtpmjpogcaglphaaDoor.A
open Go
set_option maxRecDepth 20000
inductive Rw where
 | mk (k n : Int) (l : List Rw)
inductive Nd where
 | mk (kind set lo hi : Int) (l : List Nd)
instance : Inhabited Rw := ⟨.mk 0 0 []⟩
instance : Inhabited Nd := ⟨.mk 0 0 0 0 []⟩
mutual
def cRw : Rw → List AV
 | .mk k n l => [.int .i64 k, .int .i64 n, .sl l.length (aG7 l)]
def aG7 : List Rw → List AV
 | [] => []
 | r :: l => cRw r ++ aG7 l
end
mutual
def cNd : Nd → List AV
 | .mk kind set lo hi l => [.int .i64 kind, .int .i64 set, .int .i64 lo, .int .i64 hi, .sl l.length (K9 l)]
def K9 : List Nd → List AV
 | [] => []
 | r :: l => cNd r ++ K9 l
end
abbrev slR (l : List Rw) : AV := .sl l.length (aG7 l)
abbrev slN (l : List Nd) : AV := .sl l.length (K9 l)
@[go_sem] theorem X6 (k n l) : cRw (.mk k n l) = [.int .i64 k, .int .i64 n, slR l] := by rw [cRw]
@[go_sem] theorem o7 (k s lo hi l) : cNd (.mk k s lo hi l) = [.int .i64 k, .int .i64 s, .int .i64 lo, .int .i64 hi, slN l] := by rw [cNd]
@[go_sem] theorem aj5 : aG7 [] = [] := by rw [aG7]
@[go_sem] theorem p6 : K9 [] = [] := by rw [K9]
theorem L0 (r l) : aG7 (r :: l) = cRw r ++ aG7 l := by rw [aG7]
theorem A1 (r l) : K9 (r :: l) = cNd r ++ K9 l := by rw [K9]
theorem G4 (r) : (cRw r).length = 3 := by obtain ⟨k, n, l⟩ := r; rw [X6]; rfl
theorem x9 (r) : (cNd r).length = 5 := by obtain ⟨k, s, lo, hi, l⟩ := r; rw [o7]; rfl
@[go_sem] theorem cP4 (r) : (cRw r).length = 3 := G4 r
@[go_sem] theorem cP5 (r) : (cNd r).length = 5 := x9 r
@[go_sem] theorem bB0 (r) : (cRw r).take 3 = cRw r := j0 (G4 r)
@[go_sem] theorem bB1 (r) : (cNd r).take 5 = cNd r := j0 (x9 r)
theorem bl1 (r x) : (cRw r ++ x).take 3 = cRw r := by rw [List.take_append_of_le_length (by rw [G4]; omega), bB0]
theorem bl2 (r x) : (cNd r ++ x).take 5 = cNd r := by rw [List.take_append_of_le_length (by rw [x9]; omega), bB1]
attribute [go_sem] bl1 bl2
@[go_sem] theorem cn8 (r) : (cNd r).all n9 = true := by obtain ⟨k, s, lo, hi, m⟩ := r; rw [o7]; rfl
@[go_sem] theorem df0 (r) : (cRw r).all n9 = true := by obtain ⟨k, n, m⟩ := r; rw [X6]; rfl
@[go_sem] theorem ao4 (l) : (aG7 l).length = l.length * 3 := by
 induction l with
 | nil => rw [aj5]; rfl
 | cons r l ih => rw [L0, List.length_append, G4, ih, List.length_cons]; omega
@[go_sem] theorem C2 (l) : (K9 l).length = l.length * 5 := by
 induction l with
 | nil => rw [p6]; rfl
 | cons r l ih => rw [A1, List.length_append, x9, ih, List.length_cons]; omega
theorem W3 (x y) : K9 (x ++ y) = K9 x ++ K9 y := by
 induction x with
 | nil => rw [p6]; rfl
 | cons r l ih => rw [List.cons_append, A1, ih, A1, List.append_assoc]
theorem C7 (r) : K9 [r] = cNd r := by rw [A1, p6, List.append_nil]
@[go_sem] theorem cP6 (l) : (K9 l).all n9 = true := by
 induction l with
 | nil => rw [p6]; rfl
 | cons r l ih => obtain ⟨k, s, lo, hi, m⟩ := r; rw [A1, o7, List.all_append, ih]; rfl
@[go_sem] theorem az4 (o d r) : (cNd r).map (view o d) = cNd r := by
 obtain ⟨k, s, lo, hi, m⟩ := r
 rw [o7]
 simp only [List.map_cons, List.map_nil, aa9, bk2]
@[go_sem] theorem P2 (o d l) : (K9 l).map (view o d) = K9 l := by
 induction l with
 | nil => rw [p6]; rfl
 | cons r l ih => rw [A1, List.map_append, az4, ih]
@[go_sem] theorem cE4 (o d r) : (cRw r).map (view o d) = cRw r := by
 obtain ⟨k, n, m⟩ := r
 rw [X6]
 simp only [List.map_cons, List.map_nil, aa9, bk2]
@[go_sem] theorem aT6 (o d r) : (cNd r).flatMap (b9 o d) = [] := by
 obtain ⟨k, s, lo, hi, m⟩ := r
 rw [o7]
 simp only [List.flatMap_cons, List.flatMap_nil, ab0, bk4, List.append_nil]
@[go_sem] theorem bl3 (o d l) : (K9 l).flatMap (b9 o d) = [] := by
 induction l with
 | nil => rw [p6]; rfl
 | cons r l ih => rw [A1, List.flatMap_append, aT6, ih]; rfl
@[go_sem] theorem cE5 (o d r) : (cRw r).flatMap (b9 o d) = [] := by
 obtain ⟨k, n, m⟩ := r
 rw [X6]
 simp only [List.flatMap_cons, List.flatMap_nil, ab0, bk4, List.append_nil]
theorem bl4 {l : List Rw} {i : Nat} (h : i < l.length) : (aG7 l).drop (i * 3) = cRw (l.getD i default) ++ aG7 (l.drop (i + 1)) := by
 induction l generalizing i with
 | nil => simp at h
 | cons r l ih =>
  cases i with
  | zero => rw [L0]; rfl
  | succ i =>
   rw [L0, show (i + 1) * 3 = (cRw r).length + i * 3 by rw [G4]; omega, ← List.drop_drop, List.drop_left, ih (by simpa using h)]
   rfl
theorem bl5 {l : List Nd} {i : Nat} (h : i < l.length) : (K9 l).drop (i * 5) = cNd (l.getD i default) ++ K9 (l.drop (i + 1)) := by
 induction l generalizing i with
 | nil => simp at h
 | cons r l ih =>
  cases i with
  | zero => rw [A1]; rfl
  | succ i =>
   rw [A1, show (i + 1) * 5 = (cNd r).length + i * 5 by rw [x9]; omega, ← List.drop_drop, List.drop_left, ih (by simpa using h)]
   rfl
mutual
theorem aN3 : ∀ {x y : Rw}, cRw x = cRw y → x = y
 | .mk k n l, .mk k' n' l', h => by
  rw [X6, X6] at h
  simp only [List.cons.injEq, AV.int.injEq, AV.sl.injEq, true_and, and_true] at h
  obtain ⟨h1, h2, _, h3⟩ := h
  rw [h1, h2, ab4 h3]
theorem ab4 : ∀ {x y : List Rw}, aG7 x = aG7 y → x = y
 | [], [], _ => rfl
 | [], r :: l, h => by
  have := congrArg List.length h
  rw [aj5, ao4] at this
  simp at this
 | r :: l, [], h => by
  have := congrArg List.length h
  rw [aj5, ao4] at this
  simp at this
 | r :: l, r' :: l', h => by
  rw [L0, L0] at h
  obtain ⟨h1, h2⟩ := List.append_inj h (by rw [G4, G4])
  rw [aN3 h1, ab4 h2]
end
mutual
theorem Y4 : ∀ {x y : Nd}, cNd x = cNd y → x = y
 | .mk k s lo hi l, .mk k' s' lo' hi' l', h => by
  rw [o7, o7] at h
  simp only [List.cons.injEq, AV.int.injEq, AV.sl.injEq, true_and, and_true] at h
  obtain ⟨h1, h2, h4, h5, _, h3⟩ := h
  rw [h1, h2, h4, h5, ab5 h3]
theorem ab5 : ∀ {x y : List Nd}, K9 x = K9 y → x = y
 | [], [], _ => rfl
 | [], r :: l, h => by
  have := congrArg List.length h
  rw [p6, C2] at this
  simp at this
 | r :: l, [], h => by
  have := congrArg List.length h
  rw [p6, C2] at this
  simp at this
 | r :: l, r' :: l', h => by
  rw [A1, A1] at h
  obtain ⟨h1, h2⟩ := List.append_inj h (by rw [x9, x9])
  rw [Y4 h1, ab5 h2]
end
def bl6 (x : Int) : Int := IntKind.i64.wrap (1 * 2 ^ min (x % 5).toNat 64)
def A6 (n : Int) (ls : List Nd) (i : Nat) : Nd := if i < ls.length then ls.getD i default else .mk 1 (bl6 (IntKind.i64.wrap (n + i))) 0 0 []
def H7 (n : Nat) : Nat := if n ≤ 2 then 2 else if n ≤ 4 then n else 4
def G3 (k n : Int) (ls : List Nd) : Nd :=
 if k % 14 ≤ 1 then .mk 1 (1 + n % 31) 0 0 []
 else if k % 14 ≤ 3 then .mk 1 (bl6 n) 0 0 []
 else if k % 14 = 4 then .mk (if n % 3 = 0 then 2 else 3) 0 0 0 []
 else if k % 14 ≤ 7 then .mk 4 0 0 0 ((List.range (H7 ls.length)).map (A6 n ls))
 else if k % 14 ≤ 9 then .mk 5 0 0 0 ((List.range (H7 ls.length)).map (A6 n ls))
 else if k % 14 = 10 then .mk 6 0 0 0 [A6 n ls 0]
 else if k % 14 = 11 then .mk 7 0 0 0 [A6 n ls 0]
 else if k % 14 = 12 then .mk 8 0 0 0 [A6 n ls 0]
 else .mk 9 0 (n % 4) (n % 4 + IntKind.i64.wrap (n.tdiv 4) % 3) [A6 n ls 0]
mutual
def ab6 : Rw → Nd
 | .mk k n l => G3 k n (u3 l)
def u3 : List Rw → List Nd
 | [] => []
 | r :: l => ab6 r :: u3 l
end
theorem A9 (l) : (u3 l).length = l.length := by
 induction l with
 | nil => rw [u3]; rfl
 | cons r l ih => rw [u3, List.length_cons, ih, List.length_cons]
theorem bb5 {l : List Rw} {i : Nat} (h : i < l.length) : (u3 l).getD i default = ab6 (l.getD i default) := by
 induction l generalizing i with
 | nil => simp at h
 | cons r l ih =>
  rw [u3]
  cases i with
  | zero => rfl
  | succ i => exact ih (by simpa using h)
abbrev aG8 (r : Rw) : AV := .agg (cRw r)
abbrev j5 (n : Nd) : AV := .agg (cNd n)
set_option maxRecDepth 20000
def T5 (k : Int) (n : Nat) : Bool := if k = 1 ∨ k = 2 ∨ k = 3 then n == 0 else if k = 4 ∨ k = 5 then decide (2 ≤ n) else if k = 6 ∨ k = 7 ∨ k = 8 ∨ k = 9 then n == 1 else false
def Y5 (k s lo hi : Int) (n : Nat) : Bool := T5 k n && decide (k = 1 ∨ s = 0) && decide (k = 9 ∨ (lo = 0 ∧ hi = 0)) && decide (k = 1 → 1 ≤ s ∧ s ≤ 31) && decide (0 ≤ lo ∧ lo ≤ hi ∧ hi ≤ 9)
mutual
def B0 : Nd → Bool
 | .mk k s lo hi l => Y5 k s lo hi l.length && T6 l
def T6 : List Nd → Bool
 | [] => true
 | x :: l => B0 x && T6 l
end
theorem aN4 {l : List Nd} : T6 l = l.all B0 := by
 induction l with
 | nil => rw [T6]; rfl
 | cons x l ih => rw [T6, ih, List.all_cons]
mutual
def az5 : Nd → Bool
 | .mk _ _ _ _ l => decide (l.length ≤ 1000) && ab7 l
def ab7 : List Nd → Bool
 | [] => true
 | x :: l => az5 x && ab7 l
end
theorem bb6 {l : List Nd} : ab7 l = l.all az5 := by
 induction l with
 | nil => rw [ab7]; rfl
 | cons x l ih => rw [ab7, ih, List.all_cons]
theorem bS9 {l : List Nd} (h : ab7 l = true) {i : Nat} (hi : i < l.length) : az5 (l.getD i default) = true := by
 rw [bb6, List.all_eq_true] at h
 rw [List.getD_eq_getElem?_getD, List.getElem?_eq_getElem hi]
 exact h _ (List.getElem_mem hi)
theorem bb7 {l : List Nd} {j : Nat} (hj : j < l.length) (k s lo hi : Int) : SizeOf.sizeOf (l.getD j default) < SizeOf.sizeOf (Nd.mk k s lo hi l) := by
 rw [List.getD_eq_getElem?_getD, List.getElem?_eq_getElem hj, Option.getD_some]
 have := List.sizeOf_lt_of_mem (List.getElem_mem hj)
 simp only [Nd.mk.sizeOf_spec]
 omega
theorem y5 {k s lo hi : Int} {l : List Nd} (h : B0 (.mk k s lo hi l) = true) : (∀ x ∈ l, B0 x = true) ∧
  ((k = 1 ∧ l = [] ∧ lo = 0 ∧ hi = 0 ∧ 1 ≤ s ∧ s ≤ 31) ∨ ((k = 2 ∨ k = 3) ∧ l = [] ∧ s = 0 ∧ lo = 0 ∧ hi = 0) ∨ ((k = 4 ∨ k = 5) ∧ s = 0 ∧ lo = 0 ∧ hi = 0 ∧ ∃ x y r, l = x :: y :: r) ∨
   ((k = 6 ∨ k = 7 ∨ k = 8) ∧ s = 0 ∧ lo = 0 ∧ hi = 0 ∧ ∃ x, l = [x]) ∨ (k = 9 ∧ s = 0 ∧ 0 ≤ lo ∧ lo ≤ hi ∧ hi ≤ 9 ∧ ∃ x, l = [x])) := by
 rw [B0, Bool.and_eq_true, aN4] at h
 obtain ⟨h, hl⟩ := h
 refine ⟨fun x hx => List.all_eq_true.1 hl x hx, ?_⟩
 simp only [Y5, Bool.and_eq_true, decide_eq_true_eq] at h
 obtain ⟨⟨⟨⟨hc, h1⟩, h2⟩, h3⟩, h4⟩ := h
 unfold T5 at hc
 split at hc
 ·rename_i hk
  have hl0 : l = [] := by simpa using hc
  rcases hk with rfl | rfl | rfl
  ·have := h3 rfl
   have := h2.resolve_left (by decide)
   exact .inl ⟨rfl, hl0, by omega, by omega, by omega, by omega⟩
  ·have := h2.resolve_left (by decide)
   have := h1.resolve_left (by decide)
   exact .inr (.inl ⟨.inl rfl, hl0, by omega, by omega, by omega⟩)
  ·have := h2.resolve_left (by decide)
   have := h1.resolve_left (by decide)
   exact .inr (.inl ⟨.inr rfl, hl0, by omega, by omega, by omega⟩)
 ·split at hc
  ·rename_i hk
   have hl2 : ∃ x y r, l = x :: y :: r := by
    match l, hc with
    | x :: y :: r, _ => exact ⟨x, y, r, rfl⟩
   have := h2.resolve_left (by omega)
   have := h1.resolve_left (by omega)
   exact .inr (.inr (.inl ⟨hk, by omega, by omega, by omega, hl2⟩))
  ·split at hc
   ·rename_i hk
    have hl1 : ∃ x, l = [x] := by
     match l, hc with
     | [x], _ => exact ⟨x, rfl⟩
    have := h1.resolve_left (by omega)
    by_cases h9 : k = 9
    ·exact .inr (.inr (.inr (.inr ⟨h9, by omega, by omega, by omega, by omega, hl1⟩)))
    ·have := h2.resolve_left h9
     exact .inr (.inr (.inr (.inl ⟨by omega, by omega, by omega, by omega, hl1⟩)))
   ·cases hc
end Go.Proofs.YtpmjpogcaglphaaDoor.A
