/- The table of contracts for the laws of least machines that read no text. -/
import Derived.Test.YtpmjpogcaglphaaDoorMLMOther30
import Derived.Test.YtpmjpogcaglphaaDoorMLMOther36
import Derived.Test.YtpmjpogcaglphaaDoorMLMOther39
import Derived.Test.YtpmjpogcaglphaaDoorMLMOther40
import Derived.Test.YtpmjpogcaglphaaDoorMLMOther42
set_option linter.unusedVariables false
set_option linter.unusedSimpArgs false
set_option linter.unnecessarySimpa false
namespace Go.Proofs.YtpmjpogcaglphaaDoor.A
open Go
set_option maxRecDepth 20000
abbrev dV (n : Nat) (N : List Int) (A : List Bool) : AV := .agg [.sl n (cI N), .sl n (cB A)]
theorem ar8 {n : Nat} {N : List Int} {A : List Bool} (h : A.length = n) : P8 n N A = dV n N A := by rw [P8, slB, h]
theorem bu7 {n N A} (h : WfD n N A) : cI6 n N A = true := by
 have hn := h.sz
 have ha := h.a
 unfold cI6
 rw [decide_eq_true (by omega), Bool.true_and, List.all_eq_true]
 exact fun x hx => decide_eq_true (h.e x hx)
def bd1 (args : List AV) (r : AV) : Prop := ∃ (n : Nat) (N : List Int) (A : List Bool), WfD n N A ∧ args = [P8 n N A] ∧ r = .bool true
theorem bK1 : N1 bd1 := by rintro args r r' ⟨_, _, _, _, _, rfl⟩ ⟨_, _, _, _, _, rfl⟩; rfl
theorem bK2 (args r) (h : bd1 args r) : Ok Tryd.prog 21 args r := by
 obtain ⟨n, N, A, h1, rfl, rfl⟩ := h
 rw [← bu7 h1]
 exact bU4 n N A h1.l
def RRn (args : List AV) (r : AV) : Prop := ∃ (n : Nat) (N : List Int) (A : List Bool) (w : List Int), WfD n N A ∧ w.length ≤ 1000000 ∧ args = [P8 n N A, slI w] ∧ r = .bool (bv8 n N A w)
theorem cA6 : N1 RRn := by
 rintro args r r' ⟨n, N, A, w, _, _, rfl, rfl⟩ ⟨n', N', A', w', _, _, h, rfl⟩
 simp only [List.cons.injEq, and_true] at h
 obtain ⟨h1, h2, h3⟩ := N6 h.1
 rw [h1, h2, h3, ae0 h.2]
theorem cA7 (args r) (h : RRn args r) : Ok Tryd.prog 32 args r := by obtain ⟨n, N, A, w, h1, h2, rfl, rfl⟩ := h; exact bA0 h1 w h2
noncomputable def XM0 : FuncId → List AV → Option AV := n7 [(14, w9 cj4), (15, w9 dj9), (16, w9 bH5), (18, w9 bH5), (17, w9 RSa), (27, w9 RSa), (19, w9 bG9), (20, w9 bG9), (21, w9 bd1), (31, w9 cr2), (32, w9 RRn), (29, w9 aZ0), (30, w9 RW)]
theorem cc3 {n N A} (h : WfD n N A) : XM0 16 [dV n N A] = some (dV (I5 N A).length (R5 N A) (I5 N A)) := by
 rw [← ar8 h.a, ← ar8 rfl]
 exact l5 (R := bH5) bt1 ⟨_, _, _, h, rfl, rfl⟩
theorem bK3 {n N A k M B} (h : WfD n N A) (h' : WfD k M B) : XM0 27 [dV n N A, dV k M B] = some (.bool (decide (A = B ∧ N = M))) := by
 rw [← ar8 h.a, ← ar8 h'.a]
 exact l5 (R := RSa) cA4 ⟨_, _, _, _, _, _, h.l, h'.l, by have := h.sz; omega, h.a, h'.a, rfl, rfl⟩
theorem cA8 {n N A} (h : WfD n N A) : XM0 19 [dV n N A] = some (.bool (I6 n N)) := by
 rw [← ar8 h.a]
 exact l5 (R := bG9) bs8 ⟨_, _, _, h, rfl, rfl⟩
theorem cc4 {n N A} (h : WfD n N A) : XM0 20 [dV n N A] = some (.bool (I6 n N)) := by
 rw [← ar8 h.a]
 exact l5 (R := bG9) bs8 ⟨_, _, _, h, rfl, rfl⟩
theorem cc5 {n N A} (h : WfD n N A) : XM0 21 [dV n N A] = some (.bool true) := by
 rw [← ar8 h.a]
 exact l5 (R := bd1) bK1 ⟨_, _, _, h, rfl, rfl⟩
theorem cc6 {n N A} (h : WfD n N A) (w : List Int) (hl : w.length ≤ 1000000) : XM0 32 [dV n N A, slI w] = some (.bool (bv8 n N A w)) := by
 rw [← ar8 h.a]
 exact l5 (R := RRn) cA6 ⟨_, _, _, _, h, hl, rfl, rfl⟩
theorem bK4 (ns : List Int) (most few : Int) (h : 0 ≤ most ∧ most ≤ 1000) : XM0 29 [slI ns, .int .i64 most, .int .i64 few] = some (slI (F9 ns most few)) := l5 (R := aZ0) bz7 ⟨_, _, _, h, rfl, rfl⟩
set_option maxRecDepth 20000
def aO8 (u : List Int) (i : Nat) : List Int := (List.range u.length).map fun p => if p < i ∨ u.length - i ≤ p then u.getD (u.length - 1 - p) 0 else u.getD p 0
theorem B8 (u i) : (aO8 u i).length = u.length := by simp [aO8]
theorem af5 {u : List Int} {i p : Nat} (hp : p < u.length) : (aO8 u i).getD p 0 = if p < i ∨ u.length - i ≤ p then u.getD (u.length - 1 - p) 0 else u.getD p 0 := by
 unfold aO8
 rw [List.getD_eq_getElem?_getD, List.getElem?_map, List.getElem?_range hp]
 rfl
theorem aA4 {x y : List Int} (hl : x.length = y.length) (h : ∀ p, p < x.length → x.getD p 0 = y.getD p 0) : x = y := by
 refine List.ext_getElem hl fun p h1 h2 => ?_
 have := h p h1
 simpa [List.getD, h1, h2] using this
theorem bu8 (u) : aO8 u 0 = u := aA4 (B8 u 0) fun p hp => by
 rw [B8] at hp
 rw [af5 hp, if_neg (by omega)]
theorem bK5 {u : List Int} {i : Nat} (hi : ¬ (i : Int) < (u.length : Int) - 1 - i) : aO8 u i = u.reverse := aA4 (by rw [B8, List.length_reverse]) fun p hp => by
 rw [B8] at hp
 have e : u.reverse.getD p 0 = u.getD (u.length - 1 - p) 0 := by
  rw [List.getD_eq_getElem?_getD, List.getD_eq_getElem?_getD, List.getElem?_reverse hp]
 rw [af5 hp, e]
 by_cases h : p < i ∨ u.length - i ≤ p
 ·rw [if_pos h]
 ·rw [if_neg h, show u.length - 1 - p = p by omega]
theorem bu9 {u : List Int} {i : Nat} (hi : (i : Int) < (u.length : Int) - 1 - i) : ((aO8 u i).set i (u.getD (u.length - 1 - i) 0)).set (u.length - 1 - i) (u.getD i 0) = aO8 u (i + 1) := aA4 (by simp [B8]) fun p hp => by
 rw [List.length_set, List.length_set, B8] at hp
 rw [A6 _ _ _ _ _ (by rw [List.length_set, B8]; omega), A6 _ _ _ _ _ (by rw [B8]; omega), af5 hp, af5 hp]
 by_cases h1 : u.length - 1 - i = p
 ·rw [if_pos h1, if_pos (by omega), show u.length - 1 - p = i by omega]
 ·rw [if_neg h1]
  by_cases h2 : i = p
  ·rw [if_pos h2, if_pos (by omega), h2]
  ·rw [if_neg h2]
   by_cases h3 : p < i ∨ u.length - i ≤ p
   ·rw [if_pos h3, if_pos (by omega)]
   ·rw [if_neg h3, if_neg (by omega)]
theorem cc7 (X) : d6 (EX md0 X) (fun _ => none) 1 Tryd.f57 = true := by kernel_rfl
theorem cA9 (X : FuncId → List AV → Option AV) (cr : q7) {q s : Nat} {g : Tag} {u : List Int} {o : Ob} {nx : Nat} (hl : u.length ≤ 100000000) (hr : o (q, s) = some (.row ⟨3, 1, g, false, true, cI u⟩)) :
  WP (EX md0 X) cr 100000010 (fun _ => none) (Tryd.f57.body.getD .skip) (u7 [.ref (q, s) g 0 u.length]) o nx (fun w a o' nx' => w = .normal ∧ nx ≤ nx' ∧ o' (q, s) = some (.row ⟨3, 1, g, false, true, cI u.reverse⟩) ∧ ∀ t, t ≠ (q, s) → o' t = o t) := by
 simp only [Tryd.f57, Option.getD_some]
 simp (disch := omega) only [go_sem]
 refine m9 (fun mm a o' nx' => ∃ i : Nat, i ≤ u.length ∧ mm = u.length - i ∧ nx ≤ nx' ∧ a 0 = .ref (q, s) g 0 u.length ∧ a 2 = .int .i64 i ∧ a 3 = .int .i64 ((u.length : Int) - 1 - i) ∧ o' (q, s) = some (.row ⟨3, 1, g, false, true, cI (aO8 u i)⟩) ∧ ∀ t, t ≠ (q, s) → o' t = o t) u.length (by omega) ⟨0, by omega, by omega, by omega, by simp (disch := omega) only [go_sem], by simp (disch := omega) only [go_sem], by simp (disch := omega) only [go_sem]; simp, by rw [bu8]; exact hr, fun t _ => rfl⟩ ?_
 rintro mm a o' nx' ⟨i, hi, rfl, hnx, h0, h2, h3, hq, hk⟩
 by_cases hlt : (i : Int) < (u.length : Int) - 1 - i
 ·have g1 := I0 (l := aO8 u i) (i := i) (s := 1) (by rw [B8]; omega)
  have g2 := I0 (l := aO8 u i) (i := u.length - 1 - i) (s := 1) (by rw [B8]; omega)
  rw [af5 (by omega), if_neg (by omega)] at g1
  rw [af5 (by omega), if_neg (by omega)] at g2
  have hj : ((u.length : Int) - 1 - i).toNat = u.length - 1 - i := by omega
  have hcs := au5 (aO8 u i) i (u.getD (u.length - 1 - i) 0) (by rw [B8]; omega)
  have hcs2 := au5 ((aO8 u i).set i (u.getD (u.length - 1 - i) 0)) (u.length - 1 - i) (u.getD i 0) (by rw [List.length_set, B8]; omega)
  rw [bu9 hlt] at hcs2
  have hl1 : (cI (aO8 u i)).length = u.length := by rw [f8, B8]
  have hl2 : (cI ((aO8 u i).set i (u.getD (u.length - 1 - i) 0))).length = u.length := by rw [f8, List.length_set, B8]
  generalize u.getD i 0 = x at *
  generalize u.getD (u.length - 1 - i) 0 = y at *
  simp (disch := omega) only [go_sem, h0, h2, h3, hq, hlt, g1, g2, hj, hcs, hcs2, hl1, hl2]
  refine ⟨u.length - (i + 1), by omega, i + 1, by omega, rfl, by omega, rfl, by congr 1; omega, rfl, fun t ht => ?_⟩
  rw [A9 _ _ _ _ ht, A9 _ _ _ _ ht]
  exact hk t ht
 ·rw [bK5 hlt] at hq
  simp (disch := omega) only [go_sem, h0, h2, h3, hlt]
  exact ⟨by omega, hq, hk⟩
theorem cc8 (X : FuncId → List AV → Option AV) (cr : q7) {o : Ob} {nx : Nat} :
  WP (EX md0 X) cr 100000010 (fun _ => none) (Tryd.f57.body.getD .skip) (u7 [.nil]) o nx (fun w a o' nx' => w = .normal ∧ nx ≤ nx' ∧ o' = o) := by
 simp only [Tryd.f57, Option.getD_some]
 simp (disch := omega) only [go_sem]
 refine m9 (fun mm a o' nx' => nx ≤ nx' ∧ a 2 = .int .i64 0 ∧ a 3 = .int .i64 (-1) ∧ o' = o) 0 (by omega) ⟨by omega, by simp (disch := omega) only [go_sem], by simp (disch := omega) only [go_sem], rfl⟩ ?_
 rintro mm a o' nx' ⟨hnx, h2, h3, rfl⟩
 simp (disch := omega) only [go_sem, h2, h3]
 omega
theorem cB0 (X) : d6 (EX md0 X) (fun _ => none) 1 Tryd.f58 = true := by kernel_rfl
theorem bK6 (X : FuncId → List AV → Option AV) (cr : q7) {v : AV} {n : Nat} {x : List Int} {o : Ob} {nx : Nat} (hv : HS 3 1 62 o nx v n (cI x)) (hl : n ≤ 100000000) :
  WP (EX md0 X) cr 0 (fun _ => none) (Tryd.f58.body.getD .skip) (u7 [v]) o nx (fun w a o' nx' => w = .ret ∧ nx ≤ nx' ∧ view o' 1011 (a 2) = .sl n (cI x)) := by
 have hxl := hv.len
 rw [f8] at hxl
 simp only [Tryd.f58, Option.getD_some]
 rcases hv with ⟨rfl, rfl, h0⟩ | ⟨i, g, rfl, hi, hro, hlen⟩
 ·have hx0 : x = [] := List.length_eq_zero_iff.1 (by omega)
  subst hx0
  have e : G3 Tryd.prog .eql 22 .nil .nil = some (.bool true) := rfl
  simp (disch := omega) only [go_sem, e]
  omega
 ·have e : G3 Tryd.prog .eql 22 (.ref (i, 62) g 0 n) .nil = some (.bool false) := rfl
  have htk : (cI x).take (n * 1) = cI x := d9 hlen
  have htk2 : (cI x).take n = cI x := d9 (by omega)
  have hl2 := f8 x
  simp (disch := omega) only [go_sem, e, hro, htk, htk2, hl2, List.take_zero, List.nil_append, Nat.zero_mul, Nat.zero_add]
  omega
end Go.Proofs.YtpmjpogcaglphaaDoor.A
