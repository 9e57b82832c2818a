/- Trees: raw expressions, nodes, their cells; the expression of a raw one. -/
import Derived.Test.YtpmjpogcaglphaaDoorMLMOther7
set_option linter.unusedVariables false
set_option linter.unusedSimpArgs false
set_option linter.unnecessarySimpa false
namespace Go.Proofs.YtpmjpogcaglphaaDoor.A
open Go
set_option maxRecDepth 20000
inductive Rw where
 | mk (k n : Int) (l : List Rw)
inductive Nd where
 | mk (kind set lo hi : Int) (l : List Nd)
instance : Inhabited Rw := ⟨.mk 0 0 []⟩
instance : Inhabited Nd := ⟨.mk 0 0 0 0 []⟩
mutual
def cRw : Rw → List AV
 | .mk k n l => [.int .i64 k, .int .i64 n, .sl l.length (aE7 l)]
def aE7 : List Rw → List AV
 | [] => []
 | r :: l => cRw r ++ aE7 l
end
mutual
def cNd : Nd → List AV
 | .mk kind set lo hi l => [.int .i64 kind, .int .i64 set, .int .i64 lo, .int .i64 hi, .sl l.length (L8 l)]
def L8 : List Nd → List AV
 | [] => []
 | r :: l => cNd r ++ L8 l
end
abbrev slR (l : List Rw) : AV := .sl l.length (aE7 l)
abbrev slN (l : List Nd) : AV := .sl l.length (L8 l)
@[go_sem] theorem X0 (k n l) : cRw (.mk k n l) = [.int .i64 k, .int .i64 n, slR l] := by rw [cRw]
@[go_sem] theorem o8 (k s lo hi l) : cNd (.mk k s lo hi l) = [.int .i64 k, .int .i64 s, .int .i64 lo, .int .i64 hi, slN l] := by rw [cNd]
@[go_sem] theorem ai8 : aE7 [] = [] := by rw [aE7]
@[go_sem] theorem p8 : L8 [] = [] := by rw [L8]
theorem L9 (r l) : aE7 (r :: l) = cRw r ++ aE7 l := by rw [aE7]
theorem y9 (r l) : L8 (r :: l) = cNd r ++ L8 l := by rw [L8]
theorem G7 (r) : (cRw r).length = 3 := by obtain ⟨k, n, l⟩ := r; rw [X0]; rfl
theorem w8 (r) : (cNd r).length = 5 := by obtain ⟨k, s, lo, hi, l⟩ := r; rw [o8]; rfl
@[go_sem] theorem cU1 (r) : (cRw r).length = 3 := G7 r
@[go_sem] theorem cU2 (r) : (cNd r).length = 5 := w8 r
@[go_sem] theorem bA2 (r) : (cRw r).take 3 = cRw r := d9 (G7 r)
@[go_sem] theorem bA3 (r) : (cNd r).take 5 = cNd r := d9 (w8 r)
theorem bj2 (r x) : (cRw r ++ x).take 3 = cRw r := by rw [List.take_append_of_le_length (by rw [G7]; omega), bA2]
theorem bj3 (r x) : (cNd r ++ x).take 5 = cNd r := by rw [List.take_append_of_le_length (by rw [w8]; omega), bA3]
attribute [go_sem] bj2 bj3
@[go_sem] theorem cr3 (r) : (cNd r).all n5 = true := by obtain ⟨k, s, lo, hi, m⟩ := r; rw [o8]; rfl
@[go_sem] theorem dj4 (r) : (cRw r).all n5 = true := by obtain ⟨k, n, m⟩ := r; rw [X0]; rfl
@[go_sem] theorem an6 (l) : (aE7 l).length = l.length * 3 := by
 induction l with
 | nil => rw [ai8]; rfl
 | cons r l ih => rw [L9, List.length_append, G7, ih, List.length_cons]; omega
@[go_sem] theorem C1 (l) : (L8 l).length = l.length * 5 := by
 induction l with
 | nil => rw [p8]; rfl
 | cons r l ih => rw [y9, List.length_append, w8, ih, List.length_cons]; omega
theorem V9 (x y) : L8 (x ++ y) = L8 x ++ L8 y := by
 induction x with
 | nil => rw [p8]; rfl
 | cons r l ih => rw [List.cons_append, y9, ih, y9, List.append_assoc]
theorem C7 (r) : L8 [r] = cNd r := by rw [y9, p8, List.append_nil]
@[go_sem] theorem cU3 (l) : (L8 l).all n5 = true := by
 induction l with
 | nil => rw [p8]; rfl
 | cons r l ih => obtain ⟨k, s, lo, hi, m⟩ := r; rw [y9, o8, List.all_append, ih]; rfl
@[go_sem] theorem ay0 (o d r) : (cNd r).map (view o d) = cNd r := by
 obtain ⟨k, s, lo, hi, m⟩ := r
 rw [o8]
 simp only [List.map_cons, List.map_nil, V6, bh9]
@[go_sem] theorem P6 (o d l) : (L8 l).map (view o d) = L8 l := by
 induction l with
 | nil => rw [p8]; rfl
 | cons r l ih => rw [y9, List.map_append, ay0, ih]
@[go_sem] theorem cI7 (o d r) : (cRw r).map (view o d) = cRw r := by
 obtain ⟨k, n, m⟩ := r
 rw [X0]
 simp only [List.map_cons, List.map_nil, V6, bh9]
@[go_sem] theorem aS1 (o d r) : (cNd r).flatMap (a8 o d) = [] := by
 obtain ⟨k, s, lo, hi, m⟩ := r
 rw [o8]
 simp only [List.flatMap_cons, List.flatMap_nil, V7, bi1, List.append_nil]
@[go_sem] theorem bj4 (o d l) : (L8 l).flatMap (a8 o d) = [] := by
 induction l with
 | nil => rw [p8]; rfl
 | cons r l ih => rw [y9, List.flatMap_append, aS1, ih]; rfl
@[go_sem] theorem cI8 (o d r) : (cRw r).flatMap (a8 o d) = [] := by
 obtain ⟨k, n, m⟩ := r
 rw [X0]
 simp only [List.flatMap_cons, List.flatMap_nil, V7, bi1, List.append_nil]
theorem bj5 {l : List Rw} {i : Nat} (h : i < l.length) : (aE7 l).drop (i * 3) = cRw (l.getD i default) ++ aE7 (l.drop (i + 1)) := by
 induction l generalizing i with
 | nil => simp at h
 | cons r l ih =>
  cases i with
  | zero => rw [L9]; rfl
  | succ i =>
   rw [L9, show (i + 1) * 3 = (cRw r).length + i * 3 by rw [G7]; omega, ← List.drop_drop, List.drop_left, ih (by simpa using h)]
   rfl
theorem bj6 {l : List Nd} {i : Nat} (h : i < l.length) : (L8 l).drop (i * 5) = cNd (l.getD i default) ++ L8 (l.drop (i + 1)) := by
 induction l generalizing i with
 | nil => simp at h
 | cons r l ih =>
  cases i with
  | zero => rw [y9]; rfl
  | succ i =>
   rw [y9, show (i + 1) * 5 = (cNd r).length + i * 5 by rw [w8]; omega, ← List.drop_drop, List.drop_left, ih (by simpa using h)]
   rfl
mutual
theorem aL6 : ∀ {x y : Rw}, cRw x = cRw y → x = y
 | .mk k n l, .mk k' n' l', h => by
  rw [X0, X0] at h
  simp only [List.cons.injEq, AV.int.injEq, AV.sl.injEq, true_and, and_true] at h
  obtain ⟨h1, h2, _, h3⟩ := h
  rw [h1, h2, aa6 h3]
theorem aa6 : ∀ {x y : List Rw}, aE7 x = aE7 y → x = y
 | [], [], _ => rfl
 | [], r :: l, h => by
  have := congrArg List.length h
  rw [ai8, an6] at this
  simp at this
 | r :: l, [], h => by
  have := congrArg List.length h
  rw [ai8, an6] at this
  simp at this
 | r :: l, r' :: l', h => by
  rw [L9, L9] at h
  obtain ⟨h1, h2⟩ := List.append_inj h (by rw [G7, G7])
  rw [aL6 h1, aa6 h2]
end
mutual
theorem Y0 : ∀ {x y : Nd}, cNd x = cNd y → x = y
 | .mk k s lo hi l, .mk k' s' lo' hi' l', h => by
  rw [o8, o8] at h
  simp only [List.cons.injEq, AV.int.injEq, AV.sl.injEq, true_and, and_true] at h
  obtain ⟨h1, h2, h4, h5, _, h3⟩ := h
  rw [h1, h2, h4, h5, aa7 h3]
theorem aa7 : ∀ {x y : List Nd}, L8 x = L8 y → x = y
 | [], [], _ => rfl
 | [], r :: l, h => by
  have := congrArg List.length h
  rw [p8, C1] at this
  simp at this
 | r :: l, [], h => by
  have := congrArg List.length h
  rw [p8, C1] at this
  simp at this
 | r :: l, r' :: l', h => by
  rw [y9, y9] at h
  obtain ⟨h1, h2⟩ := List.append_inj h (by rw [w8, w8])
  rw [Y0 h1, aa7 h2]
end
def bj7 (x : Int) : Int := IntKind.i64.wrap (1 * 2 ^ min (x % 5).toNat 64)
def A2 (n : Int) (ls : List Nd) (i : Nat) : Nd := if i < ls.length then ls.getD i default else .mk 1 (bj7 (IntKind.i64.wrap (n + i))) 0 0 []
def I1 (n : Nat) : Nat := if n ≤ 2 then 2 else if n ≤ 4 then n else 4
def G0 (k n : Int) (ls : List Nd) : Nd :=
 if k % 14 ≤ 1 then .mk 1 (1 + n % 31) 0 0 []
 else if k % 14 ≤ 3 then .mk 1 (bj7 n) 0 0 []
 else if k % 14 = 4 then .mk (if n % 3 = 0 then 2 else 3) 0 0 0 []
 else if k % 14 ≤ 7 then .mk 4 0 0 0 ((List.range (I1 ls.length)).map (A2 n ls))
 else if k % 14 ≤ 9 then .mk 5 0 0 0 ((List.range (I1 ls.length)).map (A2 n ls))
 else if k % 14 = 10 then .mk 6 0 0 0 [A2 n ls 0]
 else if k % 14 = 11 then .mk 7 0 0 0 [A2 n ls 0]
 else if k % 14 = 12 then .mk 8 0 0 0 [A2 n ls 0]
 else .mk 9 0 (n % 4) (n % 4 + IntKind.i64.wrap (n.tdiv 4) % 3) [A2 n ls 0]
mutual
def aa8 : Rw → Nd
 | .mk k n l => G0 k n (s7 l)
def s7 : List Rw → List Nd
 | [] => []
 | r :: l => aa8 r :: s7 l
end
theorem A8 (l) : (s7 l).length = l.length := by
 induction l with
 | nil => rw [s7]; rfl
 | cons r l ih => rw [s7, List.length_cons, ih, List.length_cons]
theorem aZ1 {l : List Rw} {i : Nat} (h : i < l.length) : (s7 l).getD i default = aa8 (l.getD i default) := by
 induction l generalizing i with
 | nil => simp at h
 | cons r l ih =>
  rw [s7]
  cases i with
  | zero => rfl
  | succ i => exact ih (by simpa using h)
abbrev aE8 (r : Rw) : AV := .agg (cRw r)
abbrev j5 (n : Nd) : AV := .agg (cNd n)
set_option maxRecDepth 20000
def T4 (k : Int) (n : Nat) : Bool := if k = 1 ∨ k = 2 ∨ k = 3 then n == 0 else if k = 4 ∨ k = 5 then decide (2 ≤ n) else if k = 6 ∨ k = 7 ∨ k = 8 ∨ k = 9 then n == 1 else false
def ae2 (k s lo hi : Int) (n : Nat) : Bool := T4 k n && decide (k = 1 ∨ s = 0) && decide (k = 9 ∨ (lo = 0 ∧ hi = 0)) && decide (k = 1 → 1 ≤ s ∧ s ≤ 31) && decide (0 ≤ lo ∧ lo ≤ hi ∧ hi ≤ 9)
mutual
def D5 : Nd → Bool
 | .mk k s lo hi l => ae2 k s lo hi l.length && T5 l
def T5 : List Nd → Bool
 | [] => true
 | x :: l => D5 x && T5 l
end
theorem aL7 {l : List Nd} : T5 l = l.all D5 := by
 induction l with
 | nil => rw [T5]; rfl
 | cons x l ih => rw [T5, ih, List.all_cons]
mutual
def ay1 : Nd → Bool
 | .mk _ _ _ _ l => decide (l.length ≤ 1000) && aa9 l
def aa9 : List Nd → Bool
 | [] => true
 | x :: l => ay1 x && aa9 l
end
theorem aZ2 {l : List Nd} : aa9 l = l.all ay1 := by
 induction l with
 | nil => rw [aa9]; rfl
 | cons x l ih => rw [aa9, ih, List.all_cons]
theorem bU6 {l : List Nd} (h : aa9 l = true) {i : Nat} (hi : i < l.length) : ay1 (l.getD i default) = true := by
 rw [aZ2, List.all_eq_true] at h
 rw [List.getD_eq_getElem?_getD, List.getElem?_eq_getElem hi]
 exact h _ (List.getElem_mem hi)
theorem aZ3 {l : List Nd} {j : Nat} (hj : j < l.length) (k s lo hi : Int) : SizeOf.sizeOf (l.getD j default) < SizeOf.sizeOf (Nd.mk k s lo hi l) := by
 rw [List.getD_eq_getElem?_getD, List.getElem?_eq_getElem hj, Option.getD_some]
 have := List.sizeOf_lt_of_mem (List.getElem_mem hj)
 simp only [Nd.mk.sizeOf_spec]
 omega
theorem x8 {k s lo hi : Int} {l : List Nd} (h : D5 (.mk k s lo hi l) = true) : (∀ x ∈ l, D5 x = true) ∧
  ((k = 1 ∧ l = [] ∧ lo = 0 ∧ hi = 0 ∧ 1 ≤ s ∧ s ≤ 31) ∨ ((k = 2 ∨ k = 3) ∧ l = [] ∧ s = 0 ∧ lo = 0 ∧ hi = 0) ∨ ((k = 4 ∨ k = 5) ∧ s = 0 ∧ lo = 0 ∧ hi = 0 ∧ ∃ x y r, l = x :: y :: r) ∨
   ((k = 6 ∨ k = 7 ∨ k = 8) ∧ s = 0 ∧ lo = 0 ∧ hi = 0 ∧ ∃ x, l = [x]) ∨ (k = 9 ∧ s = 0 ∧ 0 ≤ lo ∧ lo ≤ hi ∧ hi ≤ 9 ∧ ∃ x, l = [x])) := by
 rw [D5, Bool.and_eq_true, aL7] at h
 obtain ⟨h, hl⟩ := h
 refine ⟨fun x hx => List.all_eq_true.1 hl x hx, ?_⟩
 simp only [ae2, Bool.and_eq_true, decide_eq_true_eq] at h
 obtain ⟨⟨⟨⟨hc, h1⟩, h2⟩, h3⟩, h4⟩ := h
 unfold T4 at hc
 split at hc
 ·rename_i hk
  have hl0 : l = [] := by simpa using hc
  rcases hk with rfl | rfl | rfl
  ·have := h3 rfl
   have := h2.resolve_left (by decide)
   exact .inl ⟨rfl, hl0, by omega, by omega, by omega, by omega⟩
  ·have := h2.resolve_left (by decide)
   have := h1.resolve_left (by decide)
   exact .inr (.inl ⟨.inl rfl, hl0, by omega, by omega, by omega⟩)
  ·have := h2.resolve_left (by decide)
   have := h1.resolve_left (by decide)
   exact .inr (.inl ⟨.inr rfl, hl0, by omega, by omega, by omega⟩)
 ·split at hc
  ·rename_i hk
   have hl2 : ∃ x y r, l = x :: y :: r := by
    match l, hc with
    | x :: y :: r, _ => exact ⟨x, y, r, rfl⟩
   have := h2.resolve_left (by omega)
   have := h1.resolve_left (by omega)
   exact .inr (.inr (.inl ⟨hk, by omega, by omega, by omega, hl2⟩))
  ·split at hc
   ·rename_i hk
    have hl1 : ∃ x, l = [x] := by
     match l, hc with
     | [x], _ => exact ⟨x, rfl⟩
    have := h1.resolve_left (by omega)
    by_cases h9 : k = 9
    ·exact .inr (.inr (.inr (.inr ⟨h9, by omega, by omega, by omega, by omega, hl1⟩)))
    ·have := h2.resolve_left h9
     exact .inr (.inr (.inr (.inl ⟨by omega, by omega, by omega, by omega, hl1⟩)))
   ·cases hc
end Go.Proofs.YtpmjpogcaglphaaDoor.A
