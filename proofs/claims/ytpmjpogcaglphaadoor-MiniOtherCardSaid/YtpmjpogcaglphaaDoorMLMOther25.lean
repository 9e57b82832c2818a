/- Whether machines are steady: the program, the document. -/
import Derived.Test.YtpmjpogcaglphaaDoorMLMOther24
set_option linter.unusedVariables false
set_option linter.unusedSimpArgs false
set_option linter.unnecessarySimpa false
namespace Go.Proofs.YtpmjpogcaglphaaDoor.A
open Go
set_option maxRecDepth 20000
theorem aG9 {n N k} (hk : k < 5 * n) (h : ¬ N.getD ((N.getD k 0).toNat * 5 + k % 5) 0 = N.getD k 0) : I6 n N = false := by
 rw [← Bool.not_eq_true]
 exact fun hs => h (bs7 hs hk)
theorem av6 {n N} (h : ∀ k, k < n * 5 → N.getD ((N.getD k 0).toNat * 5 + k % 5) 0 = N.getD k 0) : I6 n N = true := by
 rw [I6, List.all_eq_true]
 exact fun k hk => decide_eq_true (h k (by have := List.mem_range.1 hk; omega))
theorem ap9 {N : List Int} {n i : Nat} (hN : N.length = 5 * n) (hlt : i < n) : ∃ row, ((cI N).drop (i * 5)).take 5 = row ∧ (∀ j, j < 5 → H6 false 1 (row.drop j) = some (.int .i64 (N.getD (i * 5 + j) 0))) ∧ row.length = 5 ∧ row.all n5 = true ∧ row.take 5 = row ∧ ((cI N).drop (i * 5)).length = N.length - i * 5 := by
 have hl5 : ((cI N).drop (i * 5)).length = N.length - i * 5 := by rw [List.length_drop, f8]
 have htl : (((cI N).drop (i * 5)).take 5).length = 5 := by rw [List.length_take, hl5]; omega
 refine ⟨_, rfl, fun j hj => ?_, htl, by rw [bh7, aK8]; exact ar1 _, d9 htl, hl5⟩
 rw [List.drop_take, List.drop_drop]
 have hk : i * 5 + j < N.length := by omega
 have := I0 (s := 1) hk
 cases hd : (cI N).drop (i * 5 + j) with
 | nil => rw [hd] at this; cases this
 | cons y l =>
  rw [hd] at this
  obtain ⟨d, hd'⟩ : ∃ d, 5 - j = d + 1 := ⟨4 - j, by omega⟩
  rw [hd']
  exact this
theorem bZ4 (X) : d6 (EX md0 X) (fun _ => none) 1 Tryd.f19 = true := by kernel_rfl
theorem bZ5 (X) : d6 (EX md0 X) (fun _ => none) 1 Tryd.f20 = true := by kernel_rfl
theorem cv6 {n : Nat} {N : List Int} {A : List Bool} (hw : WfD n N A) : Ok Tryd.prog 19 [P8 n N A] (.bool (I6 n N)) := by
 refine j7 (E := EX md0 (fun _ _ => none)) (cr := noR) (m7 _) (m5 _) mixed (k := 2002) Tryd.func19 (bZ4 _) rfl ?_
 have hn := hw.sz
 have hN := hw.l
 simp only [Tryd.f19, Option.getD_some]
 simp (disch := omega) only [go_sem]
 refine m9 (fun m a o nx => ∃ i : Nat, i ≤ n ∧ m = n - i ∧ 1 ≤ nx ∧ (∀ k, k < i * 5 → N.getD ((N.getD k 0).toNat * 5 + k % 5) 0 = N.getD k 0) ∧ a 1 = .ptr (0, 1) (0, 1) 0 ∧ a 8 = .sl n (cI N) ∧ a 9 = .int .i64 n ∧ a 10 = .int .i64 i ∧ o (0, 1) = some (.row ⟨27, 1, (0, 1), false, true, [.sl n (cI N), slB A]⟩)) n (by omega) ⟨0, by omega, by omega, by omega, fun k hk => by omega, by simp (disch := omega) only [go_sem], by simp (disch := omega) only [go_sem], by simp (disch := omega) only [go_sem], by simp (disch := omega) only [go_sem], by simp [b8]⟩ ?_
 rintro m a o nx ⟨i, hi, rfl, hnx, hall, ha1, ha8, ha9, ha10, o1⟩
 by_cases hlt : i < n
 ·obtain ⟨row, hrw', hrow, htl, hok, htt, hl5⟩ := ap9 hN hlt
  simp (disch := omega) only [go_sem, ha1, ha8, ha9, ha10, o1, hl5, hrw', htl, hok, htt]
  refine m9 (fun m' a o nx => ∃ j : Nat, j ≤ 5 ∧ m' = 5 - j ∧ 1 ≤ nx ∧ (∀ k, k < i * 5 + j → N.getD ((N.getD k 0).toNat * 5 + k % 5) 0 = N.getD k 0) ∧ a 1 = .ptr (0, 1) (0, 1) 0 ∧ a 8 = .sl n (cI N) ∧ a 9 = .int .i64 n ∧ a 10 = .int .i64 i ∧ a 14 = .agg row ∧ a 15 = .int .i64 j ∧ o (0, 1) = some (.row ⟨27, 1, (0, 1), false, true, [.sl n (cI N), slB A]⟩)) 5 (by omega) ⟨0, by omega, by omega, by omega, hall, by simp (disch := omega) only [go_sem, ha1], by simp (disch := omega) only [go_sem, ha8], by simp (disch := omega) only [go_sem, ha9], by simp (disch := omega) only [go_sem, ha10], by simp (disch := omega) only [go_sem], by simp (disch := omega) only [go_sem], by simp (disch := omega) [D2, o1]⟩ ?_
  clear ha1 ha8 ha9 ha10 o1 hnx
  rintro m' a o nx ⟨j, hj, rfl, hnx, hall, ha1, ha8, ha9, ha10, ha14, ha15, o1⟩
  by_cases hj5 : j < 5
  ·have hat := hrow j hj5
   have hg := hw.get (k := i * 5 + j) (by omega)
   obtain ⟨x, hx⟩ : ∃ x, x = N.getD (i * 5 + j) 0 := ⟨_, rfl⟩
   rw [← hx] at hat hg
   have hk2 : x.toNat * 5 + j < N.length := by omega
   have hat2 : H6 false 1 (((cI N).drop (x.toNat * 5)).drop j) = some (.int .i64 (N.getD (x.toNat * 5 + j) 0)) := by
    rw [List.drop_drop]; exact I0 hk2
   obtain ⟨y, hy⟩ : ∃ y, y = N.getD (x.toNat * 5 + j) 0 := ⟨_, rfl⟩
   rw [← hy] at hat2
   have hmod : (i * 5 + j) % 5 = j := by omega
   by_cases hxy : y = x
   ·simp (disch := omega) only [go_sem, ha1, ha8, ha9, ha10, ha14, ha15, o1, hat, hat2, hxy]
    refine ⟨_, by omega, j + 1, by omega, rfl, fun k hk' => ?_, rfl⟩
    by_cases hke : k = i * 5 + j
    ·rw [hke, hmod, ← hx, ← hy, hxy]
    ·exact hall k (by omega)
   ·rw [aG9 (n := n) (N := N) (k := i * 5 + j) (by omega) (by rw [hmod, ← hx, ← hy]; exact hxy)]
    simp (disch := omega) only [go_sem, ha1, ha8, ha9, ha10, ha14, ha15, o1, hat, hat2, hxy]
  ·have hj' : j = 5 := by omega
   simp (disch := omega) only [go_sem, ha1, ha8, ha9, ha10, ha14, ha15, o1]
   exact ⟨_, by omega, i + 1, by omega, rfl, fun k hk => hall k (by omega), rfl⟩
 ·rw [av6 (fun k hk => hall k (by omega))]
  simp (disch := omega) only [go_sem, ha1, ha8, ha9, ha10, o1]
theorem cv7 {n : Nat} {N : List Int} {A : List Bool} (hw : WfD n N A) : Ok Tryd.prog 20 [P8 n N A] (.bool (I6 n N)) := by
 refine j7 (E := EX md0 (fun _ _ => none)) (cr := noR) (m7 _) (m5 _) mixed (k := 2002) Tryd.func20 (bZ5 _) rfl ?_
 have hn := hw.sz
 have hN := hw.l
 simp only [Tryd.f20, Option.getD_some]
 simp (disch := omega) only [go_sem]
 refine m9 (fun m a o nx => ∃ i : Nat, i ≤ n ∧ m = n - i ∧ (∀ k, k < i * 5 → N.getD ((N.getD k 0).toNat * 5 + k % 5) 0 = N.getD k 0) ∧ a 1 = .ptr (0, 1) (0, 1) 0 ∧ a 3 = .int .i64 i ∧ o (0, 1) = some (.row ⟨27, 1, (0, 1), false, true, [.sl n (cI N), slB A]⟩)) n (by omega) ⟨0, by omega, by omega, fun k hk => by omega, by simp (disch := omega) only [go_sem], by simp (disch := omega) only [go_sem], by simp [b8]⟩ ?_
 rintro m a o nx ⟨i, hi, rfl, hall, ha1, ha3, o1⟩
 by_cases hlt : i < n
 ·simp (disch := omega) only [go_sem, ha1, ha3, o1]
  refine m9 (fun m' a o' nx => ∃ j : Nat, j ≤ 5 ∧ m' = 5 - j ∧ (∀ k, k < i * 5 + j → N.getD ((N.getD k 0).toNat * 5 + k % 5) 0 = N.getD k 0) ∧ a 1 = .ptr (0, 1) (0, 1) 0 ∧ a 3 = .int .i64 i ∧ a 4 = .int .i64 j ∧ o' = o) 5 (by omega) ⟨0, by omega, by omega, hall, by simp (disch := omega) only [go_sem, ha1], by simp (disch := omega) only [go_sem, ha3], by simp (disch := omega) only [go_sem], rfl⟩ ?_
  rintro m' a o' nx ⟨j, hj, rfl, hall, ha1, ha3, ha4, rfl⟩
  by_cases hj5 : j < 5
  ·have hk : i * 5 + j < N.length := by omega
   have hat : H6 false 1 (((cI N).drop (i * 5)).drop j) = some (.int .i64 (N.getD (i * 5 + j) 0)) := by
    rw [List.drop_drop]; exact I0 hk
   have hg := hw.get (k := i * 5 + j) (by omega)
   obtain ⟨x, hx⟩ : ∃ x, x = N.getD (i * 5 + j) 0 := ⟨_, rfl⟩
   rw [← hx] at hat hg
   have hk2 : x.toNat * 5 + j < N.length := by omega
   have hat2 : H6 false 1 (((cI N).drop (x.toNat * 5)).drop j) = some (.int .i64 (N.getD (x.toNat * 5 + j) 0)) := by
    rw [List.drop_drop]; exact I0 hk2
   obtain ⟨y, hy⟩ : ∃ y, y = N.getD (x.toNat * 5 + j) 0 := ⟨_, rfl⟩
   rw [← hy] at hat2
   have hmod : (i * 5 + j) % 5 = j := by omega
   by_cases hxy : y = x
   ·simp (disch := omega) only [go_sem, ha1, ha3, ha4, o1, hat, hat2, hxy]
    refine ⟨_, by omega, j + 1, by omega, rfl, fun k hk' => ?_, rfl⟩
    by_cases hke : k = i * 5 + j
    ·rw [hke, hmod, ← hx, ← hy, hxy]
    ·exact hall k (by omega)
   ·rw [aG9 (n := n) (N := N) (k := i * 5 + j) (by omega) (by rw [hmod, ← hx, ← hy]; exact hxy)]
    simp (disch := omega) only [go_sem, ha1, ha3, ha4, o1, hat, hat2, hxy]
  ·have hj' : j = 5 := by omega
   simp (disch := omega) only [go_sem, ha1, ha3, ha4, o1]
   exact ⟨_, by omega, i + 1, by omega, rfl, fun k hk => hall k (by omega), rfl⟩
 ·rw [av6 (fun k hk => hall k (by omega))]
  simp (disch := omega) only [go_sem, ha1, ha3, o1]
def bG9 (args : List AV) (r : AV) : Prop := ∃ (n : Nat) (N : List Int) (A : List Bool), WfD n N A ∧ args = [P8 n N A] ∧ r = .bool (I6 n N)
theorem bs8 : N1 bG9 := by
 rintro args r r' ⟨n, N, A, _, rfl, rfl⟩ ⟨n', N', A', _, h, rfl⟩
 simp only [List.cons.injEq, and_true] at h
 obtain ⟨h1, h2, _⟩ := N6 h
 rw [h1, h2]
theorem bs9 (args r) (h : bG9 args r) : Ok Tryd.prog 19 args r := by obtain ⟨n, N, A, h1, rfl, rfl⟩ := h; exact cv6 h1
theorem bH0 (args r) (h : bG9 args r) : Ok Tryd.prog 20 args r := by obtain ⟨n, N, A, h1, rfl, rfl⟩ := h; exact cv7 h1
end Go.Proofs.YtpmjpogcaglphaaDoor.A
