/- Trees: raw expressions, nodes, their cells; the expression of a raw one. -/
import Derived.Test.YtpmjpogcaglphaaDoorMLMOne7
set_option linter.unusedVariables false
set_option linter.unusedSimpArgs false
set_option linter.unnecessarySimpa false
namespace Go.Proofs.YtpmjpogcaglphaaDoor.A
open Go
set_option maxRecDepth 20000
inductive Rw where
 | mk (k n : Int) (l : List Rw)
inductive Nd where
 | mk (kind set lo hi : Int) (l : List Nd)
instance : Inhabited Rw := ⟨.mk 0 0 []⟩
instance : Inhabited Nd := ⟨.mk 0 0 0 0 []⟩
mutual
def cRw : Rw → List AV
 | .mk k n l => [.int .i64 k, .int .i64 n, .sl l.length (aJ5 l)]
def aJ5 : List Rw → List AV
 | [] => []
 | r :: l => cRw r ++ aJ5 l
end
mutual
def cNd : Nd → List AV
 | .mk kind set lo hi l => [.int .i64 kind, .int .i64 set, .int .i64 lo, .int .i64 hi, .sl l.length (K7 l)]
def K7 : List Nd → List AV
 | [] => []
 | r :: l => cNd r ++ K7 l
end
abbrev slR (l : List Rw) : AV := .sl l.length (aJ5 l)
abbrev slN (l : List Nd) : AV := .sl l.length (K7 l)
@[go_sem] theorem Z9 (k n l) : cRw (.mk k n l) = [.int .i64 k, .int .i64 n, slR l] := by rw [cRw]
@[go_sem] theorem n5 (k s lo hi l) : cNd (.mk k s lo hi l) = [.int .i64 k, .int .i64 s, .int .i64 lo, .int .i64 hi, slN l] := by rw [cNd]
@[go_sem] theorem am5 : aJ5 [] = [] := by rw [aJ5]
@[go_sem] theorem s8 : K7 [] = [] := by rw [K7]
theorem N4 (r l) : aJ5 (r :: l) = cRw r ++ aJ5 l := by rw [aJ5]
theorem B3 (r l) : K7 (r :: l) = cNd r ++ K7 l := by rw [K7]
theorem H9 (r) : (cRw r).length = 3 := by obtain ⟨k, n, l⟩ := r; rw [Z9]; rfl
theorem y9 (r) : (cNd r).length = 5 := by obtain ⟨k, s, lo, hi, l⟩ := r; rw [n5]; rfl
@[go_sem] theorem da7 (r) : (cRw r).length = 3 := H9 r
@[go_sem] theorem da8 (r) : (cNd r).length = 5 := y9 r
@[go_sem] theorem bI6 (r) : (cRw r).take 3 = cRw r := f7 (H9 r)
@[go_sem] theorem bI7 (r) : (cNd r).take 5 = cNd r := f7 (y9 r)
theorem bp7 (r x) : (cRw r ++ x).take 3 = cRw r := by rw [List.take_append_of_le_length (by rw [H9]; omega), bI6]
theorem bp8 (r x) : (cNd r ++ x).take 5 = cNd r := by rw [List.take_append_of_le_length (by rw [y9]; omega), bI7]
attribute [go_sem] bp7 bp8
@[go_sem] theorem cz0 (r) : (cNd r).all p8 = true := by obtain ⟨k, s, lo, hi, m⟩ := r; rw [n5]; rfl
@[go_sem] theorem dq5 (r) : (cRw r).all p8 = true := by obtain ⟨k, n, m⟩ := r; rw [Z9]; rfl
@[go_sem] theorem ar3 (l) : (aJ5 l).length = l.length * 3 := by
 induction l with
 | nil => rw [am5]; rfl
 | cons r l ih => rw [N4, List.length_append, H9, ih, List.length_cons]; omega
@[go_sem] theorem D5 (l) : (K7 l).length = l.length * 5 := by
 induction l with
 | nil => rw [s8]; rfl
 | cons r l ih => rw [B3, List.length_append, y9, ih, List.length_cons]; omega
theorem Y8 (x y) : K7 (x ++ y) = K7 x ++ K7 y := by
 induction x with
 | nil => rw [s8]; rfl
 | cons r l ih => rw [List.cons_append, B3, ih, B3, List.append_assoc]
theorem B4 (r) : K7 [r] = cNd r := by rw [B3, s8, List.append_nil]
@[go_sem] theorem da9 (l) : (K7 l).all p8 = true := by
 induction l with
 | nil => rw [s8]; rfl
 | cons r l ih => obtain ⟨k, s, lo, hi, m⟩ := r; rw [B3, n5, List.all_append, ih]; rfl
@[go_sem] theorem aC1 (o d r) : (cNd r).map (view o d) = cNd r := by
 obtain ⟨k, s, lo, hi, m⟩ := r
 rw [n5]
 simp only [List.map_cons, List.map_nil, Y4, bo7]
@[go_sem] theorem R5 (o d l) : (K7 l).map (view o d) = K7 l := by
 induction l with
 | nil => rw [s8]; rfl
 | cons r l ih => rw [B3, List.map_append, aC1, ih]
@[go_sem] theorem cP5 (o d r) : (cRw r).map (view o d) = cRw r := by
 obtain ⟨k, n, m⟩ := r
 rw [Z9]
 simp only [List.map_cons, List.map_nil, Y4, bo7]
@[go_sem] theorem aX0 (o d r) : (cNd r).flatMap (b9 o d) = [] := by
 obtain ⟨k, s, lo, hi, m⟩ := r
 rw [n5]
 simp only [List.flatMap_cons, List.flatMap_nil, Y5, bo9, List.append_nil]
@[go_sem] theorem bp9 (o d l) : (K7 l).flatMap (b9 o d) = [] := by
 induction l with
 | nil => rw [s8]; rfl
 | cons r l ih => rw [B3, List.flatMap_append, aX0, ih]; rfl
@[go_sem] theorem cP6 (o d r) : (cRw r).flatMap (b9 o d) = [] := by
 obtain ⟨k, n, m⟩ := r
 rw [Z9]
 simp only [List.flatMap_cons, List.flatMap_nil, Y5, bo9, List.append_nil]
theorem bq0 {l : List Rw} {i : Nat} (h : i < l.length) : (aJ5 l).drop (i * 3) = cRw (l.getD i default) ++ aJ5 (l.drop (i + 1)) := by
 induction l generalizing i with
 | nil => simp at h
 | cons r l ih =>
  cases i with
  | zero => rw [N4]; rfl
  | succ i =>
   rw [N4, show (i + 1) * 3 = (cRw r).length + i * 3 by rw [H9]; omega, ← List.drop_drop, List.drop_left, ih (by simpa using h)]
   rfl
theorem aC2 {l : List Nd} {i : Nat} (h : i < l.length) : (K7 l).drop (i * 5) = cNd (l.getD i default) ++ K7 (l.drop (i + 1)) := by
 induction l generalizing i with
 | nil => simp at h
 | cons r l ih =>
  cases i with
  | zero => rw [B3]; rfl
  | succ i =>
   rw [B3, show (i + 1) * 5 = (cNd r).length + i * 5 by rw [y9]; omega, ← List.drop_drop, List.drop_left, ih (by simpa using h)]
   rfl
mutual
theorem aQ6 : ∀ {x y : Rw}, cRw x = cRw y → x = y
 | .mk k n l, .mk k' n' l', h => by
  rw [Z9, Z9] at h
  simp only [List.cons.injEq, AV.int.injEq, AV.sl.injEq, true_and, and_true] at h
  obtain ⟨h1, h2, _, h3⟩ := h
  rw [h1, h2, ad5 h3]
theorem ad5 : ∀ {x y : List Rw}, aJ5 x = aJ5 y → x = y
 | [], [], _ => rfl
 | [], r :: l, h => by
  have := congrArg List.length h
  rw [am5, ar3] at this
  simp at this
 | r :: l, [], h => by
  have := congrArg List.length h
  rw [am5, ar3] at this
  simp at this
 | r :: l, r' :: l', h => by
  rw [N4, N4] at h
  obtain ⟨h1, h2⟩ := List.append_inj h (by rw [H9, H9])
  rw [aQ6 h1, ad5 h2]
end
mutual
theorem T1 : ∀ {x y : Nd}, cNd x = cNd y → x = y
 | .mk k s lo hi l, .mk k' s' lo' hi' l', h => by
  rw [n5, n5] at h
  simp only [List.cons.injEq, AV.int.injEq, AV.sl.injEq, true_and, and_true] at h
  obtain ⟨h1, h2, h4, h5, _, h3⟩ := h
  rw [h1, h2, h4, h5, ad6 h3]
theorem ad6 : ∀ {x y : List Nd}, K7 x = K7 y → x = y
 | [], [], _ => rfl
 | [], r :: l, h => by
  have := congrArg List.length h
  rw [s8, D5] at this
  simp at this
 | r :: l, [], h => by
  have := congrArg List.length h
  rw [s8, D5] at this
  simp at this
 | r :: l, r' :: l', h => by
  rw [B3, B3] at h
  obtain ⟨h1, h2⟩ := List.append_inj h (by rw [y9, y9])
  rw [T1 h1, ad6 h2]
end
def bq1 (x : Int) : Int := IntKind.i64.wrap (1 * 2 ^ min (x % 5).toNat 64)
def B9 (n : Int) (ls : List Nd) (i : Nat) : Nd := if i < ls.length then ls.getD i default else .mk 1 (bq1 (IntKind.i64.wrap (n + i))) 0 0 []
def J2 (n : Nat) : Nat := if n ≤ 2 then 2 else if n ≤ 4 then n else 4
def H8 (k n : Int) (ls : List Nd) : Nd :=
 if k % 14 ≤ 1 then .mk 1 (1 + n % 31) 0 0 []
 else if k % 14 ≤ 3 then .mk 1 (bq1 n) 0 0 []
 else if k % 14 = 4 then .mk (if n % 3 = 0 then 2 else 3) 0 0 0 []
 else if k % 14 ≤ 7 then .mk 4 0 0 0 ((List.range (J2 ls.length)).map (B9 n ls))
 else if k % 14 ≤ 9 then .mk 5 0 0 0 ((List.range (J2 ls.length)).map (B9 n ls))
 else if k % 14 = 10 then .mk 6 0 0 0 [B9 n ls 0]
 else if k % 14 = 11 then .mk 7 0 0 0 [B9 n ls 0]
 else if k % 14 = 12 then .mk 8 0 0 0 [B9 n ls 0]
 else .mk 9 0 (n % 4) (n % 4 + IntKind.i64.wrap (n.tdiv 4) % 3) [B9 n ls 0]
mutual
def ad7 : Rw → Nd
 | .mk k n l => H8 k n (u9 l)
def u9 : List Rw → List Nd
 | [] => []
 | r :: l => ad7 r :: u9 l
end
theorem C2 (l) : (u9 l).length = l.length := by
 induction l with
 | nil => rw [u9]; rfl
 | cons r l ih => rw [u9, List.length_cons, ih, List.length_cons]
theorem bf7 {l : List Rw} {i : Nat} (h : i < l.length) : (u9 l).getD i default = ad7 (l.getD i default) := by
 induction l generalizing i with
 | nil => simp at h
 | cons r l ih =>
  rw [u9]
  cases i with
  | zero => rfl
  | succ i => exact ih (by simpa using h)
abbrev aJ6 (r : Rw) : AV := .agg (cRw r)
abbrev f6 (n : Nd) : AV := .agg (cNd n)
set_option maxRecDepth 20000
def W0 (k : Int) (n : Nat) : Bool := if k = 1 ∨ k = 2 ∨ k = 3 then n == 0 else if k = 4 ∨ k = 5 then decide (2 ≤ n) else if k = 6 ∨ k = 7 ∨ k = 8 ∨ k = 9 then n == 1 else false
def ah4 (k s lo hi : Int) (n : Nat) : Bool := W0 k n && decide (k = 1 ∨ s = 0) && decide (k = 9 ∨ (lo = 0 ∧ hi = 0)) && decide (k = 1 → 1 ≤ s ∧ s ≤ 31) && decide (0 ≤ lo ∧ lo ≤ hi ∧ hi ≤ 9)
mutual
def B5 : Nd → Bool
 | .mk k s lo hi l => ah4 k s lo hi l.length && W1 l
def W1 : List Nd → Bool
 | [] => true
 | x :: l => B5 x && W1 l
end
theorem aQ7 {l : List Nd} : W1 l = l.all B5 := by
 induction l with
 | nil => rw [W1]; rfl
 | cons x l ih => rw [W1, ih, List.all_cons]
mutual
def ah5 : Nd → Bool
 | .mk _ _ _ _ l => decide (l.length ≤ 1000) && ad8 l
def ad8 : List Nd → Bool
 | [] => true
 | x :: l => ah5 x && ad8 l
end
theorem bf8 {l : List Nd} : ad8 l = l.all ah5 := by
 induction l with
 | nil => rw [ad8]; rfl
 | cons x l ih => rw [ad8, ih, List.all_cons]
theorem bq2 {l : List Nd} (h : ad8 l = true) {i : Nat} (hi : i < l.length) : ah5 (l.getD i default) = true := by
 rw [bf8, List.all_eq_true] at h
 rw [List.getD_eq_getElem?_getD, List.getElem?_eq_getElem hi]
 exact h _ (List.getElem_mem hi)
theorem ay7 {l : List Nd} {j : Nat} (hj : j < l.length) (k s lo hi : Int) : SizeOf.sizeOf (l.getD j default) < SizeOf.sizeOf (Nd.mk k s lo hi l) := by
 rw [List.getD_eq_getElem?_getD, List.getElem?_eq_getElem hj, Option.getD_some]
 have := List.sizeOf_lt_of_mem (List.getElem_mem hj)
 simp only [Nd.mk.sizeOf_spec]
 omega
theorem w8 {k s lo hi : Int} {l : List Nd} (h : B5 (.mk k s lo hi l) = true) : (∀ x ∈ l, B5 x = true) ∧
  ((k = 1 ∧ l = [] ∧ lo = 0 ∧ hi = 0 ∧ 1 ≤ s ∧ s ≤ 31) ∨ ((k = 2 ∨ k = 3) ∧ l = [] ∧ s = 0 ∧ lo = 0 ∧ hi = 0) ∨ ((k = 4 ∨ k = 5) ∧ s = 0 ∧ lo = 0 ∧ hi = 0 ∧ ∃ x y r, l = x :: y :: r) ∨
   ((k = 6 ∨ k = 7 ∨ k = 8) ∧ s = 0 ∧ lo = 0 ∧ hi = 0 ∧ ∃ x, l = [x]) ∨ (k = 9 ∧ s = 0 ∧ 0 ≤ lo ∧ lo ≤ hi ∧ hi ≤ 9 ∧ ∃ x, l = [x])) := by
 rw [B5, Bool.and_eq_true, aQ7] at h
 obtain ⟨h, hl⟩ := h
 refine ⟨fun x hx => List.all_eq_true.1 hl x hx, ?_⟩
 simp only [ah4, Bool.and_eq_true, decide_eq_true_eq] at h
 obtain ⟨⟨⟨⟨hc, h1⟩, h2⟩, h3⟩, h4⟩ := h
 unfold W0 at hc
 split at hc
 ·rename_i hk
  have hl0 : l = [] := by simpa using hc
  rcases hk with rfl | rfl | rfl
  ·have := h3 rfl
   have := h2.resolve_left (by decide)
   exact .inl ⟨rfl, hl0, by omega, by omega, by omega, by omega⟩
  ·have := h2.resolve_left (by decide)
   have := h1.resolve_left (by decide)
   exact .inr (.inl ⟨.inl rfl, hl0, by omega, by omega, by omega⟩)
  ·have := h2.resolve_left (by decide)
   have := h1.resolve_left (by decide)
   exact .inr (.inl ⟨.inr rfl, hl0, by omega, by omega, by omega⟩)
 ·split at hc
  ·rename_i hk
   have hl2 : ∃ x y r, l = x :: y :: r := by
    match l, hc with
    | x :: y :: r, _ => exact ⟨x, y, r, rfl⟩
   have := h2.resolve_left (by omega)
   have := h1.resolve_left (by omega)
   exact .inr (.inr (.inl ⟨hk, by omega, by omega, by omega, hl2⟩))
  ·split at hc
   ·rename_i hk
    have hl1 : ∃ x, l = [x] := by
     match l, hc with
     | [x], _ => exact ⟨x, rfl⟩
    have := h1.resolve_left (by omega)
    by_cases h9 : k = 9
    ·exact .inr (.inr (.inr (.inr ⟨h9, by omega, by omega, by omega, by omega, hl1⟩)))
    ·have := h2.resolve_left h9
     exact .inr (.inr (.inr (.inl ⟨by omega, by omega, by omega, by omega, hl1⟩)))
   ·cases hc
end Go.Proofs.YtpmjpogcaglphaaDoor.A
