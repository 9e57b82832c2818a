/- Whether two machines are one: the program, the document. -/
import Derived.Test.YtpmjpogcaglphaaDoorMLMLaws28
set_option linter.unusedVariables false
set_option linter.unusedSimpArgs false
set_option linter.unnecessarySimpa false
namespace Go.Proofs.YtpmjpogcaglphaaDoor.A
open Go
set_option maxRecDepth 20000
theorem bJ4 {x y : List Int} (hx : x.length = 5) (hy : y.length = 5) : I1 Tryd.prog .eql 54 (.agg (cI x)) (.agg (cI y)) = some (.bool (decide (x = y))) := by
 rw [df4, cK8]
 have := U6 x y (by omega)
 rw [hx] at this
 show (u7 (List.replicate 5 .int) (cI x) (cI y)).map AV.bool = _
 rw [this]
 rfl
def as8 (N : List Int) (i : Nat) : List Int := (N.drop (i * 5)).take 5
theorem aY6 {N : List Int} {n i : Nat} (hN : N.length = 5 * n) (hi : i < n) : (as8 N i).length = 5 := by
 rw [as8, List.length_take, List.length_drop]; omega
theorem ax5 {N : List Int} {n i : Nat} (hN : N.length = 5 * n) (hi : i < n) : ((cI N).drop (i * 5)).take 5 = cI (as8 N i) ∧ 5 ≤ ((cI N).drop (i * 5)).length := by
 refine ⟨by rw [bk0, aM5]; rfl, ?_⟩
 rw [List.length_drop, l5]; omega
theorem bw6 : ∀ {n : Nat} {N M : List Int}, N.length = 5 * n → M.length = 5 * n → (∀ i, i < n → as8 N i = as8 M i) → N = M
 | 0, N, M, h, h', _ => by
  rw [List.length_eq_zero_iff.1 (show N.length = 0 by omega), List.length_eq_zero_iff.1 (show M.length = 0 by omega)]
 | n + 1, N, M, h, h', hr => by
  have h0 := hr 0 (by omega)
  rw [as8, as8, Nat.zero_mul, List.drop_zero, List.drop_zero] at h0
  have ih := bw6 (n := n) (N := N.drop 5) (M := M.drop 5) (by rw [List.length_drop]; omega) (by rw [List.length_drop]; omega) (fun i hi => by
   have := hr (i + 1) (by omega)
   rw [as8, as8, show (i + 1) * 5 = 5 + i * 5 by omega, ← List.drop_drop, ← List.drop_drop] at this
   exact this)
  rw [← List.take_append_drop 5 N, ← List.take_append_drop 5 M, h0, ih]
theorem cw2 (X) : f7 (EX md0 X) (fun _ => none) 2 Tryd.f51 = true := by kernel_rfl
theorem cw3 (x y : List Bool) (hx : x.length ≤ 100000) : Ok Tryd.prog 51 [slB x, slB y] (.bool (decide (x = y))) := by
 refine m5 (E := EX md0 (fun _ _ => none)) (cr := noR) (p9 _) (o8 _) mixed (k := x.length + 1) Tryd.func51 (cw2 _) rfl ?_
 simp only [Tryd.f51, Option.getD_some]
 by_cases hl' : (x.length : Int) = y.length
 ·have hl := hl'
  simp (disch := omega) only [go_sem, hl]
  refine u2 (fun m a o nx => ∃ i, i ≤ x.length ∧ m = x.length - i ∧ x.take i = y.take i ∧ a 0 = slB x ∧ a 1 = slB y ∧ a 12 = .int .i64 x.length ∧ a 13 = .int .i64 i) x.length (by omega) ⟨0, by omega, by omega, rfl, by simp (disch := omega) only [go_sem], by simp (disch := omega) only [go_sem], by simp (disch := omega) only [go_sem, hl], by simp (disch := omega) only [go_sem]⟩ ?_
  rintro m a o nx ⟨i, hi, rfl, htk, h0, h1, h12, h13⟩
  by_cases hlt : i < x.length
  ·have hat := av4 (s := 1) hlt
   have hat2 := av4 (l := y) (i := i) (s := 1) (by omega)
   have hs1 := t8 hlt false
   have hs2 := t8 (l := y) (i := i) (by omega) false
   generalize hp : x.getD i false = p at hat hs1
   generalize hq : y.getD i false = q at hat2 hs2
   by_cases hpq : p = q
   ·have hbe : (p == q) = true := by rw [hpq]; exact beq_self_eq_true _
    simp (disch := omega) only [go_sem, h0, h1, h12, h13, hat, hat2, hbe]
    exact ⟨_, by omega, i + 1, by omega, rfl, by rw [hs1, hs2, htk, hpq], rfl⟩
   ·have hbe : (p == q) = false := beq_false_of_ne hpq
    rw [decide_eq_false (fun e => hpq (by rw [← hp, ← hq, e]))]
    simp (disch := omega) only [go_sem, h0, h1, h12, h13, hat, hat2, hbe]
  ·rw [decide_eq_true (by rw [← List.take_of_length_le (l := x) (i := i) (by omega), htk, List.take_of_length_le (by omega)])]
   simp (disch := omega) only [go_sem, h0, h1, h12, h13]
 ·have hl : ¬ (x.length : Int) = y.length := hl'
  rw [decide_eq_false (fun e => hl (by rw [e]))]
  simp (disch := omega) only [go_sem, hl]
theorem cw4 (X) : f7 (EX md0 X) (fun _ => none) 2 Tryd.f53 = true := by kernel_rfl
theorem bJ5 {x y : List Int} (hx : x.length = 5) (hy : y.length = 5) : Ok Tryd.prog 53 [.agg (cI x), .agg (cI y)] (.bool (decide (x = y))) := by
 refine m5 (E := EX md0 (fun _ _ => none)) (cr := noR) (p9 _) (o8 _) mixed (k := 0) Tryd.func53 (cw4 _) rfl ?_
 have he := bJ4 hx hy
 have h1 : (cI x).length = 5 := by rw [l5, hx]
 have h2 : (cI y).length = 5 := by rw [l5, hy]
 have h3 : (cI x).take 5 = cI x := j0 h1
 have h4 : (cI y).take 5 = cI y := j0 h2
 have h5 := as2 x
 have h6 := as2 y
 simp only [Tryd.f53, Option.getD_some]
 simp (disch := omega) only [go_sem, he, h1, h2, h3, h4, h5, h6]
def RS1 (args : List AV) (r : AV) : Prop := ∃ x y : List Int, x.length = 5 ∧ y.length = 5 ∧ args = [.agg (cI x), .agg (cI y)] ∧ r = .bool (decide (x = y))
theorem cw5 : Q5 RS1 := by
 rintro args r r' ⟨x, y, _, _, rfl, rfl⟩ ⟨x', y', _, _, h, rfl⟩
 simp only [List.cons.injEq, AV.agg.injEq, and_true] at h
 rw [P1 h.1, P1 h.2]
theorem cw6 (args r) (h : RS1 args r) : Ok Tryd.prog 53 args r := by obtain ⟨x, y, h1, h2, rfl, rfl⟩ := h; exact bJ5 h1 h2
noncomputable def XS1 : FuncId → List AV → Option AV := p4 [(53, E3 RS1)]
theorem cw7 : m7 Tryd.prog XS1 := k0 (p9 _) (n5 cw6)
theorem cw8 {x y : List Int} (hx : x.length = 5) (hy : y.length = 5) : XS1 53 [.agg (cI x), .agg (cI y)] = some (.bool (decide (x = y))) := m8 (R := RS1) cw5 ⟨_, _, hx, hy, rfl, rfl⟩
theorem cw9 : f7 (EX md0 XS1) (fun _ => none) 3 Tryd.f52 = true := by kernel_rfl
theorem cx0 {n k : Nat} {N M : List Int} (hN : N.length = 5 * n) (hM : M.length = 5 * k) (hn : n ≤ 100000) : Ok Tryd.prog 52 [.sl n (cI N), .sl k (cI M), .fn (.func 53) [] []] (.bool (decide (N = M))) := by
 refine m5 (E := EX md0 XS1) (cr := noR) cw7 (o8 _) mixed (k := n + 1) Tryd.func52 cw9 rfl ?_
 simp only [Tryd.f52, Option.getD_some]
 by_cases hnk : n = k
 ·subst hnk
  simp (disch := omega) only [go_sem]
  refine u2 (fun m a o nx => ∃ i : Nat, i ≤ n ∧ m = n - i ∧ (∀ q, q < i → as8 N q = as8 M q) ∧ a 1 = .sl n (cI M) ∧ a 2 = .fn (.func 53) [] [] ∧ a 15 = .sl n (cI N) ∧ a 16 = .int .i64 n ∧ a 17 = .int .i64 i) n (by omega) ⟨0, by omega, by omega, fun q hq => by omega, by simp (disch := omega) only [go_sem], by simp (disch := omega) only [go_sem], by simp (disch := omega) only [go_sem], by simp (disch := omega) only [go_sem], by simp (disch := omega) only [go_sem]⟩ ?_
  rintro m a o nx ⟨i, hi, rfl, hall, h1, h2, h15, h16, h17⟩
  by_cases hlt : i < n
  ·obtain ⟨c1, c2⟩ := ax5 hN hlt
   obtain ⟨c3, c4⟩ := ax5 hM hlt
   have l1 := aY6 hN hlt
   have l2 := aY6 hM hlt
   have hs := cw8 l1 l2
   have k1 : (cI (as8 N i)).length = 5 := by rw [l5, l1]
   have k2 : (cI (as8 M i)).length = 5 := by rw [l5, l2]
   have k3 : (cI (as8 N i)).take 5 = cI (as8 N i) := j0 k1
   have k4 : (cI (as8 M i)).take 5 = cI (as8 M i) := j0 k2
   have k5 := as2 (as8 N i)
   have k6 := as2 (as8 M i)
   obtain ⟨x, hx⟩ : ∃ x, x = as8 N i := ⟨_, rfl⟩
   obtain ⟨y, hy⟩ : ∃ y, y = as8 M i := ⟨_, rfl⟩
   rw [← hx] at c1 hs k1 k3 k5
   rw [← hy] at c3 hs k2 k4 k6
   have hdz : List.drop 5 [AV.int .i64 0, .int .i64 0, .int .i64 0, .int .i64 0, .int .i64 0] = [] := rfl
   have hv := fun o d => T3 o d x
   have hv' := fun o d => T3 o d y
   by_cases he : x = y
   ·rw [decide_eq_true he] at hs
    simp (disch := omega) only [go_sem, h1, h2, h15, h16, h17, c1, c2, c3, c4, hs, k1, k2, k3, k4, k5, k6, hdz, List.append_nil, hv, hv']
    refine ⟨_, by omega, i + 1, by omega, rfl, fun q hq => ?_, rfl⟩
    by_cases hqi : q = i
    ·rw [hqi, ← hx, ← hy, he]
    ·exact hall q (by omega)
   ·rw [decide_eq_false he] at hs
    rw [decide_eq_false (fun e => he (by rw [hx, hy, e]))]
    simp (disch := omega) only [go_sem, h1, h2, h15, h16, h17, c1, c2, c3, c4, hs, k1, k2, k3, k4, k5, k6, hdz, List.append_nil, hv, hv']
  ·rw [decide_eq_true (bw6 hN hM (fun q hq => hall q (by omega)))]
   simp (disch := omega) only [go_sem, h1, h2, h15, h16, h17]
 ·rw [decide_eq_false (fun e => hnk (by rw [e] at hN; omega))]
  have hnk' : ¬ (n : Int) = k := by omega
  simp (disch := omega) only [go_sem, hnk']
def REq (args : List AV) (r : AV) : Prop := ∃ x y : List Bool, x.length ≤ 100000 ∧ args = [slB x, slB y] ∧ r = .bool (decide (x = y))
theorem cx1 : Q5 REq := by
 rintro args r r' ⟨x, y, _, rfl, rfl⟩ ⟨x', y', _, h, rfl⟩
 simp only [List.cons.injEq, AV.sl.injEq, and_true] at h
 rw [bk5 h.1.2, bk5 h.2.2]
theorem cx2 (args r) (h : REq args r) : Ok Tryd.prog 51 args r := by obtain ⟨x, y, h1, rfl, rfl⟩ := h; exact cw3 x y h1
def REf (args : List AV) (r : AV) : Prop := ∃ (n k : Nat) (N M : List Int), N.length = 5 * n ∧ M.length = 5 * k ∧ n ≤ 100000 ∧ args = [.sl n (cI N), .sl k (cI M), .fn (.func 53) [] []] ∧ r = .bool (decide (N = M))
theorem cx3 : Q5 REf := by
 rintro args r r' ⟨n, k, N, M, _, _, _, rfl, rfl⟩ ⟨n', k', N', M', _, _, _, h, rfl⟩
 simp only [List.cons.injEq, AV.sl.injEq, and_true] at h
 rw [P1 h.1.2, P1 h.2.2]
theorem cx4 (args r) (h : REf args r) : Ok Tryd.prog 52 args r := by obtain ⟨n, k, N, M, h1, h2, h3, rfl, rfl⟩ := h; exact cx0 h1 h2 h3
noncomputable def XSe : FuncId → List AV → Option AV := p4 [(51, E3 REq), (52, E3 REf)]
theorem cx5 : m7 Tryd.prog XSe := k0 (k0 (p9 _) (n5 cx4)) (n5 cx2)
theorem cS5 {x y : List Bool} (h : x.length ≤ 100000) : XSe 51 [slB x, slB y] = some (.bool (decide (x = y))) := m8 (R := REq) cx1 ⟨_, _, h, rfl, rfl⟩
theorem cS6 {n k : Nat} {N M : List Int} (hN : N.length = 5 * n) (hM : M.length = 5 * k) (hn : n ≤ 100000) : XSe 52 [.sl n (cI N), .sl k (cI M), .fn (.func 53) [] []] = some (.bool (decide (N = M))) := m8 (R := REf) cx3 ⟨_, _, _, _, hN, hM, hn, rfl, rfl⟩
theorem cx6 : f7 (EX md0 XSe) (fun _ => none) 2 Tryd.f27 = true := by kernel_rfl
theorem bJ6 {n k : Nat} {N M : List Int} {A B : List Bool} (hN : N.length = 5 * n) (hM : M.length = 5 * k) (hn : n ≤ 100000) (hA : A.length ≤ 100000) : Ok Tryd.prog 27 [ar3 n N A, ar3 k M B] (.bool (decide (A = B ∧ N = M))) := by
 refine m5 (E := EX md0 XSe) (cr := noR) cx5 (o8 _) mixed (k := 0) Tryd.func27 cx6 rfl ?_
 have h1 := cS5 (x := A) (y := B) hA
 have h2 := cS6 hN hM hn
 simp only [Tryd.f27, Option.getD_some]
 by_cases hab : A = B
 ·rw [decide_eq_true hab] at h1
  have e : (decide (A = B ∧ N = M)) = decide (N = M) := by simp [hab]
  rw [e]
  generalize decide (N = M) = z at *
  simp (disch := omega) only [go_sem, h1, h2]
 ·rw [decide_eq_false hab] at h1
  rw [decide_eq_false (fun e => hab e.1)]
  simp (disch := omega) only [go_sem, h1]
def RSa (args : List AV) (r : AV) : Prop := ∃ (n k : Nat) (N M : List Int) (A B : List Bool), N.length = 5 * n ∧ M.length = 5 * k ∧ n ≤ 100000 ∧ A.length = n ∧ B.length = k ∧ args = [ar3 n N A, ar3 k M B] ∧ r = .bool (decide (A = B ∧ N = M))
theorem cx7 : Q5 RSa := by
 rintro args r r' ⟨n, k, N, M, A, B, _, _, _, _, _, rfl, rfl⟩ ⟨n', k', N', M', A', B', _, _, _, _, _, h, rfl⟩
 simp only [List.cons.injEq, and_true] at h
 obtain ⟨_, h1, h2⟩ := az3 h.1
 obtain ⟨_, h3, h4⟩ := az3 h.2
 rw [h1, h2, h3, h4]
theorem bJ7 (args r) (h : RSa args r) : Ok Tryd.prog 27 args r := by obtain ⟨n, k, N, M, A, B, h1, h2, h3, h4, h5, rfl, rfl⟩ := h; exact bJ6 h1 h2 h3 (by omega)
end Go.Proofs.YtpmjpogcaglphaaDoor.A
