/- within: the remainder. -/
import Derived.Test.YtpmjpogcaglphaaDoorME91
import Derived.Test.YtpmjpogcaglphaaDoorME92
import Derived.Test.YtpmjpogcaglphaaDoorME93
import Derived.Test.YtpmjpogcaglphaaDoorME94
import Derived.Test.YtpmjpogcaglphaaDoorME95
import Derived.Test.YtpmjpogcaglphaaDoorME96
set_option linter.unusedVariables false
set_option linter.unusedSimpArgs false
set_option linter.unnecessarySimpa false
namespace Go.Proofs.YtpmjpogcaglphaaDoor.A
open Go
set_option maxRecDepth 20000
def RW (args : List AV) (r : AV) : Prop := ∃ a n : Int, 0 < n ∧ n ≤ 1000000 ∧ args = [.int .i64 a, .int .i64 n] ∧ r = .int .i64 (a % n)
theorem RW_fn : Fun1 RW := by
  rintro args r r' ⟨a, n, _, _, rfl, rfl⟩ ⟨a', n', _, _, h, rfl⟩
  simp only [List.cons.injEq, AV.int.injEq, true_and, and_true] at h
  rw [h.1, h.2]
theorem rw_eq {a n : Int} (h1 : 0 < n) (h2 : n ≤ 1000000) : tRel RW [.int .i64 a, .int .i64 n] = some (.int .i64 (a % n)) := tRel_eq RW_fn ⟨a, n, h1, h2, rfl, rfl⟩
theorem mod_of (a n : Int) (h : 0 < n) : a % n = if a.tmod n < 0 then a.tmod n + n else a.tmod n := by
  have hn : ¬ n = 0 := by omega
  have e1 := Int.emod_lt_of_pos a h
  have e2 := Int.emod_nonneg a hn
  rw [Int.tmod_eq_emod]
  have : (n.natAbs : Int) = n := by omega
  split
  · split <;> omega
  · rename_i hc
    simp only [not_or] at hc
    have h0 : a % n ≠ 0 := fun e => hc.2 (Int.dvd_of_emod_eq_zero e)
    split <;> omega
theorem tmod_in (a n : Int) (h : 0 < n) : -n < a.tmod n ∧ a.tmod n < n := by
  have hn : ¬ n = 0 := by omega
  rw [Int.tmod_eq_emod]
  have := Int.emod_lt_of_pos a h
  have := Int.emod_nonneg a hn
  constructor <;> split <;> omega
theorem lookW1 (X) : lookedAt (EX md0 X) (fun _ => none) 2 Tryd.f56 = true := by kernel_rfl
theorem within1_ok (args r) (h : RW args r) : Ok Tryd.prog 56 args r := by
  obtain ⟨a, n, h1, h2, rfl, rfl⟩ := h
  refine ok_of_WP (E := EX md0 (fun _ _ => none)) (cr := noR) (tab_nil _) (noR_ok _) mixed (k := 0) Tryd.func56 (lookW1 _) rfl ?_
  rw [mod_of a n h1]
  obtain ⟨h3, h4⟩ := tmod_in a n h1
  simp only [Tryd.f56, Option.getD_some]
  by_cases hc : a.tmod n < 0
  · rw [if_pos hc]
    simp (disch := omega) only [go_sem, ↓IntWalk.iteOmega, IntWalk.toNatUp, Nat.reduceEqDiff, Nat.reduceAdd, Nat.reduceMul, Nat.reduceSub, Nat.reduceLT, Nat.reduceLeDiff, Int.reduceToNat, Int.reduceLT, Int.reduceLE, Int.reduceEq, Int.reduceAdd, Int.reduceSub, Int.reduceMul, Int.toNat_natCast, reduceCtorEq, decide_true, decide_false, IntWalk.i64_in, IntWalk.u64_in, IntWalk.u8_in, hc]
  · rw [if_neg hc]
    simp (disch := omega) only [go_sem, ↓IntWalk.iteOmega, IntWalk.toNatUp, Nat.reduceEqDiff, Nat.reduceAdd, Nat.reduceMul, Nat.reduceSub, Nat.reduceLT, Nat.reduceLeDiff, Int.reduceToNat, Int.reduceLT, Int.reduceLE, Int.reduceEq, Int.reduceAdd, Int.reduceSub, Int.reduceMul, Int.toNat_natCast, reduceCtorEq, decide_true, decide_false, IntWalk.i64_in, IntWalk.u64_in, IntWalk.u8_in, hc]
theorem lookW2 (X) : lookedAt (EX md0 X) (fun _ => none) 2 Tryd.f64 = true := by kernel_rfl
theorem within2_ok (args r) (h : RW args r) : Ok Tryd.prog 64 args r := by
  obtain ⟨a, n, h1, h2, rfl, rfl⟩ := h
  refine ok_of_WP (E := EX md0 (fun _ _ => none)) (cr := noR) (tab_nil _) (noR_ok _) mixed (k := 0) Tryd.func64 (lookW2 _) rfl ?_
  rw [mod_of a n h1]
  obtain ⟨h3, h4⟩ := tmod_in a n h1
  simp only [Tryd.f64, Option.getD_some]
  by_cases hc : a.tmod n < 0
  · rw [if_pos hc]
    simp (disch := omega) only [go_sem, ↓IntWalk.iteOmega, IntWalk.toNatUp, Nat.reduceEqDiff, Nat.reduceAdd, Nat.reduceMul, Nat.reduceSub, Nat.reduceLT, Nat.reduceLeDiff, Int.reduceToNat, Int.reduceLT, Int.reduceLE, Int.reduceEq, Int.reduceAdd, Int.reduceSub, Int.reduceMul, Int.toNat_natCast, reduceCtorEq, decide_true, decide_false, IntWalk.i64_in, IntWalk.u64_in, IntWalk.u8_in, hc]
  · rw [if_neg hc]
    simp (disch := omega) only [go_sem, ↓IntWalk.iteOmega, IntWalk.toNatUp, Nat.reduceEqDiff, Nat.reduceAdd, Nat.reduceMul, Nat.reduceSub, Nat.reduceLT, Nat.reduceLeDiff, Int.reduceToNat, Int.reduceLT, Int.reduceLE, Int.reduceEq, Int.reduceAdd, Int.reduceSub, Int.reduceMul, Int.toNat_natCast, reduceCtorEq, decide_true, decide_false, IntWalk.i64_in, IntWalk.u64_in, IntWalk.u8_in, hc]
theorem lookW3 (X) : lookedAt (EX md0 X) (fun _ => none) 2 Tryd.f38 = true := by kernel_rfl
theorem within3_ok (args r) (h : RW args r) : Ok Tryd.prog 38 args r := by
  obtain ⟨a, n, h1, h2, rfl, rfl⟩ := h
  refine ok_of_WP (E := EX md0 (fun _ _ => none)) (cr := noR) (tab_nil _) (noR_ok _) mixed (k := 0) Tryd.func38 (lookW3 _) rfl ?_
  rw [mod_of a n h1]
  obtain ⟨h3, h4⟩ := tmod_in a n h1
  simp only [Tryd.f38, Option.getD_some]
  by_cases hc : a.tmod n < 0
  · rw [if_pos hc]
    simp (disch := omega) only [go_sem, ↓IntWalk.iteOmega, IntWalk.toNatUp, Nat.reduceEqDiff, Nat.reduceAdd, Nat.reduceMul, Nat.reduceSub, Nat.reduceLT, Nat.reduceLeDiff, Int.reduceToNat, Int.reduceLT, Int.reduceLE, Int.reduceEq, Int.reduceAdd, Int.reduceSub, Int.reduceMul, Int.toNat_natCast, reduceCtorEq, decide_true, decide_false, IntWalk.i64_in, IntWalk.u64_in, IntWalk.u8_in, hc]
  · rw [if_neg hc]
    simp (disch := omega) only [go_sem, ↓IntWalk.iteOmega, IntWalk.toNatUp, Nat.reduceEqDiff, Nat.reduceAdd, Nat.reduceMul, Nat.reduceSub, Nat.reduceLT, Nat.reduceLeDiff, Int.reduceToNat, Int.reduceLT, Int.reduceLE, Int.reduceEq, Int.reduceAdd, Int.reduceSub, Int.reduceMul, Int.toNat_natCast, reduceCtorEq, decide_true, decide_false, IntWalk.i64_in, IntWalk.u64_in, IntWalk.u8_in, hc]
theorem lookW4 (X) : lookedAt (EX md0 X) (fun _ => none) 2 Tryd.f30 = true := by kernel_rfl
theorem within4_ok (args r) (h : RW args r) : Ok Tryd.prog 30 args r := by
  obtain ⟨a, n, h1, h2, rfl, rfl⟩ := h
  refine ok_of_WP (E := EX md0 (fun _ _ => none)) (cr := noR) (tab_nil _) (noR_ok _) mixed (k := 0) Tryd.func30 (lookW4 _) rfl ?_
  rw [mod_of a n h1]
  obtain ⟨h3, h4⟩ := tmod_in a n h1
  simp only [Tryd.f30, Option.getD_some]
  by_cases hc : a.tmod n < 0
  · rw [if_pos hc]
    simp (disch := omega) only [go_sem, ↓IntWalk.iteOmega, IntWalk.toNatUp, Nat.reduceEqDiff, Nat.reduceAdd, Nat.reduceMul, Nat.reduceSub, Nat.reduceLT, Nat.reduceLeDiff, Int.reduceToNat, Int.reduceLT, Int.reduceLE, Int.reduceEq, Int.reduceAdd, Int.reduceSub, Int.reduceMul, Int.toNat_natCast, reduceCtorEq, decide_true, decide_false, IntWalk.i64_in, IntWalk.u64_in, IntWalk.u8_in, hc]
  · rw [if_neg hc]
    simp (disch := omega) only [go_sem, ↓IntWalk.iteOmega, IntWalk.toNatUp, Nat.reduceEqDiff, Nat.reduceAdd, Nat.reduceMul, Nat.reduceSub, Nat.reduceLT, Nat.reduceLeDiff, Int.reduceToNat, Int.reduceLT, Int.reduceLE, Int.reduceEq, Int.reduceAdd, Int.reduceSub, Int.reduceMul, Int.toNat_natCast, reduceCtorEq, decide_true, decide_false, IntWalk.i64_in, IntWalk.u64_in, IntWalk.u8_in, hc]
end Go.Proofs.YtpmjpogcaglphaaDoor.A
/- Machines of one way: state, Go, Run. -/
namespace Go.Proofs.YtpmjpogcaglphaaDoor.A
open Go
set_option maxRecDepth 20000
/-- A machine of n states: where they lead, five by five; whether they accept. -/
abbrev dfaV (n : Nat) (N : List Int) (A : List Bool) : AV := .agg [.sl n (cI N), slB A]
theorem dfaV_inj {n n' : Nat} {N N' : List Int} {A A' : List Bool} (h : dfaV n N A = dfaV n' N' A') : n = n' ∧ N = N' ∧ A = A' := by
  injection h with h
  simp only [List.cons.injEq, AV.sl.injEq, and_true] at h
  exact ⟨h.1.1, cI_inj h.1.2, cB_inj h.2.2⟩
def goD (N : List Int) : Int → List Int → Int
  | s, [] => s
  | s, m :: w => if m < 0 ∨ 5 ≤ m then -1 else goD N (N.getD (s.toNat * 5 + m.toNat) 0) w
def goFull (n : Nat) (N : List Int) (s : Int) (w : List Int) : Int := if 0 ≤ s ∧ s < (n : Int) then goD N s w else -1
def runD (n : Nat) (N : List Int) (A : List Bool) (w : List Int) : Bool := if 0 ≤ goFull n N 0 w then A.getD (goFull n N 0 w).toNat false else false
structure WfD (n : Nat) (N : List Int) (A : List Bool) : Prop where
  sz : 1 ≤ n ∧ n ≤ 2000
  l : N.length = 5 * n
  a : A.length = n
  e : ∀ x ∈ N, 0 ≤ x ∧ x < (n : Int)
theorem WfD.get {n N A} (h : WfD n N A) {k : Nat} (hk : k < 5 * n) : 0 ≤ N.getD k 0 ∧ N.getD k 0 < (n : Int) := by
  have hk' : k < N.length := by rw [h.l]; exact hk
  rw [List.getD_eq_getElem?_getD, List.getElem?_eq_getElem hk']
  exact h.e _ (List.getElem_mem ..)
theorem goD_in {n N A} (h : WfD n N A) : ∀ (w : List Int) (s : Int), 0 ≤ s → s < (n : Int) → -1 ≤ goD N s w ∧ goD N s w < (n : Int)
  | [], s, h1, h2 => by rw [goD]; omega
  | m :: w, s, h1, h2 => by
    rw [goD]
    by_cases hm : m < 0 ∨ 5 ≤ m
    · rw [if_pos hm]; omega
    · rw [if_neg hm]
      have := h.get (k := s.toNat * 5 + m.toNat) (by omega)
      exact goD_in h w _ this.1 this.2
theorem goD_cut (N : List Int) : ∀ (w : List Int) (i : Nat) (s : Int), i ≤ w.length → (∀ x ∈ w.take i, 0 ≤ x ∧ x < 5) → goD N s w = goD N (goD N s (w.take i)) (w.drop i)
  | w, 0, s, _, _ => by rw [List.take_zero, List.drop_zero, goD]
  | [], i + 1, s, h, _ => by simp at h
  | m :: w, i + 1, s, h, hx => by
    have hm := hx m (by simp)
    rw [List.take_succ_cons, List.drop_succ_cons, goD, goD, if_neg (by omega), if_neg (by omega)]
    exact goD_cut N w i _ (by simpa using h) (fun x hx' => hx x (by rw [List.take_succ_cons]; exact List.mem_cons_of_mem _ hx'))
def RStD (args : List AV) (r : AV) : Prop := ∃ (n : Nat) (N : List Int) (A : List Bool) (s : Int), args = [dfaV n N A, .int .i64 s] ∧ r = .bool (decide (0 ≤ s ∧ s < (n : Int)))
theorem RStD_fn : Fun1 RStD := by
  rintro args r r' ⟨n, N, A, s, rfl, rfl⟩ ⟨n', N', A', s', h, rfl⟩
  simp only [List.cons.injEq, AV.int.injEq, true_and, and_true] at h
  rw [(dfaV_inj h.1).1, h.2]
theorem lookGoR (X) : lookedAt (EX md0 X) (fun _ => none) 3 Tryd.f31 = true := by kernel_rfl
theorem go_drop {N : List Int} {w : List Int} {i : Nat} (h : i < w.length) (s : Int) : goD N s (w.drop i) = if w.getD i 0 < 0 ∨ 5 ≤ w.getD i 0 then -1 else goD N (N.getD (s.toNat * 5 + (w.getD i 0).toNat) 0) (w.drop (i + 1)) := by
  have e : w.getD i 0 = w[i] := by simp [List.getD, h]
  rw [List.drop_eq_getElem_cons h, goD, e]
theorem rgo_ok {n : Nat} {N : List Int} {A : List Bool} (hw : WfD n N A) (s : Int) (w : List Int) (hl : w.length ≤ 1000000) : Ok Tryd.prog 31 [dfaV n N A, .int .i64 s, slI w] (.int .i64 (goFull n N s w)) := by
  refine ok_of_WP (E := EX md0 (fun _ _ => none)) (cr := noR) (tab_nil _) (noR_ok _) mixed (k := 1000002) Tryd.func31 (lookGoR _) rfl ?_
  have hn := hw.sz
  have hN := hw.l
  simp only [Tryd.f31, Option.getD_some]
  unfold goFull
  by_cases hs0 : s < 0
  · rw [if_neg (by omega)]
    simp (disch := omega) only [go_sem, ↓IntWalk.iteOmega, IntWalk.toNatUp, Nat.reduceEqDiff, Nat.reduceAdd, Nat.reduceMul, Nat.reduceSub, Nat.reduceLT, Nat.reduceLeDiff, Int.reduceToNat, Int.reduceLT, Int.reduceLE, Int.reduceEq, Int.reduceAdd, Int.reduceSub, Int.reduceMul, Int.toNat_natCast, reduceCtorEq, decide_true, decide_false, IntWalk.i64_in, IntWalk.u64_in, IntWalk.u8_in, hs0]
  by_cases hsn : (n : Int) ≤ s
  · rw [if_neg (by omega)]
    simp (disch := omega) only [go_sem, ↓IntWalk.iteOmega, IntWalk.toNatUp, Nat.reduceEqDiff, Nat.reduceAdd, Nat.reduceMul, Nat.reduceSub, Nat.reduceLT, Nat.reduceLeDiff, Int.reduceToNat, Int.reduceLT, Int.reduceLE, Int.reduceEq, Int.reduceAdd, Int.reduceSub, Int.reduceMul, Int.toNat_natCast, reduceCtorEq, decide_true, decide_false, IntWalk.i64_in, IntWalk.u64_in, IntWalk.u8_in, hs0, hsn]
  rw [if_pos (by omega)]
  simp (disch := omega) only [go_sem, ↓IntWalk.iteOmega, IntWalk.toNatUp, Nat.reduceEqDiff, Nat.reduceAdd, Nat.reduceMul, Nat.reduceSub, Nat.reduceLT, Nat.reduceLeDiff, Int.reduceToNat, Int.reduceLT, Int.reduceLE, Int.reduceEq, Int.reduceAdd, Int.reduceSub, Int.reduceMul, Int.toNat_natCast, reduceCtorEq, decide_true, decide_false, IntWalk.i64_in, IntWalk.u64_in, IntWalk.u8_in, hs0, hsn]
  refine WP_loop (fun m a o nx => ∃ (i : Nat) (s' : Int), i ≤ w.length ∧ m = w.length - i ∧ 0 ≤ s' ∧ s' < (n : Int) ∧ goD N s w = goD N s' (w.drop i) ∧ a 1 = .int .i64 s' ∧ a 2 = slI w ∧ a 3 = .ptr (0, 3) (0, 3) 0 ∧ a 7 = .int .i64 i ∧ o (0, 3) = some (.row ⟨27, 1, (0, 3), false, true, [.sl n (cI N), slB A]⟩)) w.length (by omega) ⟨0, s, by omega, by omega, by omega, by omega, rfl, by simp (disch := omega) only [go_sem, ↓IntWalk.iteOmega, IntWalk.toNatUp, Nat.reduceEqDiff, Nat.reduceAdd, Nat.reduceMul, Nat.reduceSub, Nat.reduceLT, Nat.reduceLeDiff, Int.reduceToNat, Int.reduceLT, Int.reduceLE, Int.reduceEq, Int.reduceAdd, Int.reduceSub, Int.reduceMul, Int.toNat_natCast, reduceCtorEq, decide_true, decide_false, IntWalk.i64_in, IntWalk.u64_in, IntWalk.u8_in], by simp (disch := omega) only [go_sem, ↓IntWalk.iteOmega, IntWalk.toNatUp, Nat.reduceEqDiff, Nat.reduceAdd, Nat.reduceMul, Nat.reduceSub, Nat.reduceLT, Nat.reduceLeDiff, Int.reduceToNat, Int.reduceLT, Int.reduceLE, Int.reduceEq, Int.reduceAdd, Int.reduceSub, Int.reduceMul, Int.toNat_natCast, reduceCtorEq, decide_true, decide_false, IntWalk.i64_in, IntWalk.u64_in, IntWalk.u8_in], by simp (disch := omega) only [go_sem, ↓IntWalk.iteOmega, IntWalk.toNatUp, Nat.reduceEqDiff, Nat.reduceAdd, Nat.reduceMul, Nat.reduceSub, Nat.reduceLT, Nat.reduceLeDiff, Int.reduceToNat, Int.reduceLT, Int.reduceLE, Int.reduceEq, Int.reduceAdd, Int.reduceSub, Int.reduceMul, Int.toNat_natCast, reduceCtorEq, decide_true, decide_false, IntWalk.i64_in, IntWalk.u64_in, IntWalk.u8_in], by simp (disch := omega) only [go_sem, ↓IntWalk.iteOmega, IntWalk.toNatUp, Nat.reduceEqDiff, Nat.reduceAdd, Nat.reduceMul, Nat.reduceSub, Nat.reduceLT, Nat.reduceLeDiff, Int.reduceToNat, Int.reduceLT, Int.reduceLE, Int.reduceEq, Int.reduceAdd, Int.reduceSub, Int.reduceMul, Int.toNat_natCast, reduceCtorEq, decide_true, decide_false, IntWalk.i64_in, IntWalk.u64_in, IntWalk.u8_in], by simp [upd_app]⟩ ?_
  rintro m a o nx ⟨i, s', hi, rfl, hs1, hs2, hgo, h1, h2, h3, h7, o3⟩
  by_cases hlt : i < w.length
  · have hg := cI_get (s := 1) hlt
    rw [go_drop hlt] at hgo
    obtain ⟨x, hx⟩ : ∃ x, x = w.getD i 0 := ⟨_, rfl⟩
    rw [← hx] at hg hgo
    by_cases hx0 : x < 0
    · rw [if_pos (.inl hx0)] at hgo
      simp (disch := omega) only [go_sem, ↓IntWalk.iteOmega, IntWalk.toNatUp, Nat.reduceEqDiff, Nat.reduceAdd, Nat.reduceMul, Nat.reduceSub, Nat.reduceLT, Nat.reduceLeDiff, Int.reduceToNat, Int.reduceLT, Int.reduceLE, Int.reduceEq, Int.reduceAdd, Int.reduceSub, Int.reduceMul, Int.toNat_natCast, reduceCtorEq, decide_true, decide_false, IntWalk.i64_in, IntWalk.u64_in, IntWalk.u8_in, h1, h2, h3, h7, o3, hg, hx0]
      rw [hgo]
    · by_cases hx5 : 5 ≤ x
      · rw [if_pos (.inr hx5)] at hgo
        simp (disch := omega) only [go_sem, ↓IntWalk.iteOmega, IntWalk.toNatUp, Nat.reduceEqDiff, Nat.reduceAdd, Nat.reduceMul, Nat.reduceSub, Nat.reduceLT, Nat.reduceLeDiff, Int.reduceToNat, Int.reduceLT, Int.reduceLE, Int.reduceEq, Int.reduceAdd, Int.reduceSub, Int.reduceMul, Int.toNat_natCast, reduceCtorEq, decide_true, decide_false, IntWalk.i64_in, IntWalk.u64_in, IntWalk.u8_in, h1, h2, h3, h7, o3, hg, hx0, hx5]
        rw [hgo]
      · rw [if_neg (by omega)] at hgo
        have hk : s'.toNat * 5 + x.toNat < N.length := by omega
        have hat : take1 false 1 (((cI N).drop (s'.toNat * 5)).drop x.toNat) = some (.int .i64 (N.getD (s'.toNat * 5 + x.toNat) 0)) := by
          rw [List.drop_drop]; exact cI_get hk
        have hin := hw.get (k := s'.toNat * 5 + x.toNat) (by omega)
        simp (disch := omega) only [go_sem, ↓IntWalk.iteOmega, IntWalk.toNatUp, Nat.reduceEqDiff, Nat.reduceAdd, Nat.reduceMul, Nat.reduceSub, Nat.reduceLT, Nat.reduceLeDiff, Int.reduceToNat, Int.reduceLT, Int.reduceLE, Int.reduceEq, Int.reduceAdd, Int.reduceSub, Int.reduceMul, Int.toNat_natCast, reduceCtorEq, decide_true, decide_false, IntWalk.i64_in, IntWalk.u64_in, IntWalk.u8_in, h1, h2, h3, h7, o3, hg, hx0, hx5, hat]
        exact ⟨_, by omega, i + 1, _, by omega, rfl, hin.1, hin.2, hgo, rfl, rfl⟩
  · rw [List.drop_of_length_le (by omega), goD] at hgo
    simp (disch := omega) only [go_sem, ↓IntWalk.iteOmega, IntWalk.toNatUp, Nat.reduceEqDiff, Nat.reduceAdd, Nat.reduceMul, Nat.reduceSub, Nat.reduceLT, Nat.reduceLeDiff, Int.reduceToNat, Int.reduceLT, Int.reduceLE, Int.reduceEq, Int.reduceAdd, Int.reduceSub, Int.reduceMul, Int.toNat_natCast, reduceCtorEq, decide_true, decide_false, IntWalk.i64_in, IntWalk.u64_in, IntWalk.u8_in, h1, h2, h3, h7, o3]
    rw [hgo]
end Go.Proofs.YtpmjpogcaglphaaDoor.A
/- Words that machines take, plainly: runs of them, states that are led to. -/
namespace Go.Proofs.YtpmjpogcaglphaaDoor.A
open Go
set_option maxRecDepth 20000
theorem WfD.okD {n N A} (h : WfD n N A) : OkD N A := ⟨by have := h.sz; have := h.a; omega, fun i hi => by rw [h.a] at hi; have := h.get hi; rw [h.a]; exact this⟩
theorem OkD.wf {N A} (h : OkD N A) (hl : N.length = 5 * A.length) (hm : A.length ≤ 2000) : WfD A.length N A := ⟨⟨h.l, hm⟩, hl, rfl, fun x hx => by
  obtain ⟨i, hi, rfl⟩ := List.getElem_of_mem hx
  have := h.e i (by omega)
  simpa [List.getD, hi] using this⟩
theorem min_wf {n N A} (h : WfD n N A) : WfD (minA N A).length (minN N A) (minA N A) := (min_okD h.okD).wf (minN_len h.okD) (by have := (min_le h.okD).2; have := h.a; have := h.sz; omega)
def goodW (w : List Int) : Prop := ∀ x ∈ w, 0 ≤ x ∧ x < 5
theorem goodW_nat {w : List Int} (h : goodW w) : ∀ m ∈ w.map Int.toNat, m < 5 := fun m hm => by
  obtain ⟨x, hx, rfl⟩ := List.mem_map.1 hm
  have := h x hx
  omega
theorem goD_goS {n N A} (h : WfD n N A) : ∀ (w : List Int) (s : Int), goodW w → 0 ≤ s → s < (n : Int) → goD N s w = (goS N s.toNat (w.map Int.toNat) : Nat)
  | [], s, _, h0, _ => by rw [goD, List.map_nil, goS]; omega
  | m :: w, s, hw, h0, h1 => by
    have hm := hw m (List.mem_cons_self ..)
    rw [goD, if_neg (by omega), List.map_cons, goS]
    have := h.get (k := s.toNat * 5 + m.toNat) (by omega)
    exact goD_goS h w _ (fun x hx => hw x (List.mem_cons_of_mem _ hx)) this.1 this.2
theorem goD_bad {N : List Int} : ∀ (w : List Int) (s : Int), ¬ goodW w → goD N s w = -1
  | [], s, h => absurd (fun x hx => by cases hx) h
  | m :: w, s, h => by
    rw [goD]
    by_cases hm : m < 0 ∨ 5 ≤ m
    · rw [if_pos hm]
    · rw [if_neg hm]
      refine goD_bad w _ (fun hw => h (fun x hx => ?_))
      rcases List.mem_cons.1 hx with rfl | hx
      · omega
      · exact hw x hx
open Classical in
theorem runD_eq {n N A} (h : WfD n N A) (w : List Int) : runD n N A w = if goodW w then A.getD (goS N 0 (w.map Int.toNat)) false else false := by
  have hn := h.sz
  unfold runD goFull
  rw [if_pos (show (0 : Int) ≤ 0 ∧ (0 : Int) < (n : Int) by omega)]
  by_cases hw : goodW w
  · rw [if_pos hw, goD_goS h w 0 hw (by omega) (by omega), if_pos (by omega)]
    rfl
  · rw [if_neg hw, goD_bad w 0 hw, if_neg (by omega)]
/-- Machines of one language run alike. -/
theorem run_eqv {n N A k M B} (h : WfD n N A) (h' : WfD k M B) (he : Eqv N A M B 0 0) (w : List Int) : runD n N A w = runD k M B w := by
  rw [runD_eq h, runD_eq h']
  by_cases hw : goodW w
  · rw [if_pos hw, if_pos hw]
    exact he _ (goodW_nat hw)
  · rw [if_neg hw, if_neg hw]
theorem nat_back (w : List Nat) : (w.map fun m : Nat => (m : Int)).map Int.toNat = w := by
  rw [List.map_map]
  exact List.map_id' w
theorem goodW_int {w : List Nat} (h : ∀ m ∈ w, m < 5) : goodW (w.map fun m : Nat => (m : Int)) := fun x hx => by
  obtain ⟨m, hm, rfl⟩ := List.mem_map.1 hx
  have := h m hm
  omega
theorem run_nat {n N A} (h : WfD n N A) {w : List Nat} (hw : ∀ m ∈ w, m < 5) : runD n N A (w.map fun m : Nat => (m : Int)) = A.getD (goS N 0 w) false := by
  rw [runD_eq h, if_pos (goodW_int hw), nat_back]
theorem run_flip {n N A} (h : WfD n N A) {w : List Int} (hw : goodW w) : runD n N (A.map (!·)) w = !runD n N A w := by
  have h' : WfD n N (A.map (!·)) := ⟨h.sz, h.l, by rw [List.length_map]; exact h.a, h.e⟩
  rw [runD_eq h, runD_eq h', if_pos hw, if_pos hw, flip_at (h.okD.go _ _ (goodW_nat hw) h.okD.l)]
/-! ### steady machines -/
def steadyM (n : Nat) (N : List Int) : Bool := (List.range (5 * n)).all fun i => decide (N.getD ((N.getD i 0).toNat * 5 + i % 5) 0 = N.getD i 0)
theorem steady_at {n N} (h : steadyM n N = true) {i : Nat} (hi : i < 5 * n) : N.getD ((N.getD i 0).toNat * 5 + i % 5) 0 = N.getD i 0 := of_decide_eq_true (List.all_eq_true.1 h i (List.mem_range.2 hi))
def dup (w : List Int) : List Int := w.flatMap fun m => [m, m]
theorem go_dup {n N A} (h : WfD n N A) (hs : steadyM n N = true) : ∀ (w : List Int) (s : Int), goodW w → 0 ≤ s → s < (n : Int) → goD N s (dup w) = goD N s w
  | [], s, _, _, _ => rfl
  | m :: w, s, hw, h0, h1 => by
    have hm := hw m (List.mem_cons_self ..)
    have hg := h.get (k := s.toNat * 5 + m.toNat) (by omega)
    have hst := steady_at hs (i := s.toNat * 5 + m.toNat) (by omega)
    rw [show (s.toNat * 5 + m.toNat) % 5 = m.toNat by omega] at hst
    show goD N s (m :: m :: dup w) = goD N s (m :: w)
    rw [goD, if_neg (by omega), goD, if_neg (by omega), goD, if_neg (by omega), hst]
    exact go_dup h hs w _ (fun x hx => hw x (List.mem_cons_of_mem _ hx)) hg.1 hg.2
/-- A machine that is not steady has a state and a mode that show it. -/
theorem not_steady {n N} (h : steadyM n N = false) : ∃ s m : Nat, s < n ∧ m < 5 ∧ N.getD ((N.getD (s * 5 + m) 0).toNat * 5 + m) 0 ≠ N.getD (s * 5 + m) 0 := by
  have : ¬ steadyM n N = true := by rw [h]; decide
  rw [steadyM, List.all_eq_true] at this
  obtain ⟨i, hi⟩ := Classical.not_forall.1 this
  obtain ⟨h1, h2⟩ := Classical.not_imp.1 hi
  have h1 := List.mem_range.1 h1
  refine ⟨i / 5, i % 5, by omega, by omega, fun e => h2 ?_⟩
  rw [show i / 5 * 5 + i % 5 = i by omega] at e
  exact decide_eq_true e
end Go.Proofs.YtpmjpogcaglphaaDoor.A
/- Machines of one way: Run, Check. -/
namespace Go.Proofs.YtpmjpogcaglphaaDoor.A
open Go
set_option maxRecDepth 20000
def RGoD (args : List AV) (r : AV) : Prop := ∃ (n : Nat) (N : List Int) (A : List Bool) (s : Int) (w : List Int), WfD n N A ∧ w.length ≤ 1000000 ∧ args = [dfaV n N A, .int .i64 s, slI w] ∧ r = .int .i64 (goFull n N s w)
theorem RGoD_fn : Fun1 RGoD := by
  rintro args r r' ⟨n, N, A, s, w, _, _, rfl, rfl⟩ ⟨n', N', A', s', w', _, _, h, rfl⟩
  simp only [List.cons.injEq, AV.int.injEq, true_and, and_true] at h
  obtain ⟨h1, h2, h3⟩ := dfaV_inj h.1
  rw [h1, h2, h.2.1, slI_inj h.2.2]
theorem RGoD_ref (args r) (h : RGoD args r) : Ok Tryd.prog 31 args r := by obtain ⟨n, N, A, s, w, h1, h2, rfl, rfl⟩ := h; exact rgo_ok h1 s w h2
noncomputable def XGoD : FuncId → List AV → Option AV := tabLook [(31, tRel RGoD)]
theorem XGoD_ok : CPSound Tryd.prog XGoD := tab_cons (tab_nil _) (tRel_ok RGoD_ref)
theorem XGoD_ref {n : Nat} {N : List Int} {A : List Bool} (h : WfD n N A) (s : Int) (w : List Int) (hl : w.length ≤ 1000000) : XGoD 31 [dfaV n N A, .int .i64 s, slI w] = some (.int .i64 (goFull n N s w)) := tRel_eq (R := RGoD) RGoD_fn ⟨_, _, _, _, _, h, hl, rfl, rfl⟩
theorem goFull_in {n N A} (h : WfD n N A) (s : Int) (w : List Int) : -1 ≤ goFull n N s w ∧ goFull n N s w < (n : Int) := by
  unfold goFull
  split
  · rename_i hs; exact goD_in h w s hs.1 hs.2
  · omega
theorem lookRunD1 : lookedAt (EX md0 XGoD) (fun _ => none) 2 Tryd.f32 = true := by kernel_rfl
theorem drun1_ok {n : Nat} {N : List Int} {A : List Bool} (hw : WfD n N A) (w : List Int) (hl : w.length ≤ 1000000) : Ok Tryd.prog 32 [dfaV n N A, slI w] (.bool (runD n N A w)) := by
  refine ok_of_WP (E := EX md0 XGoD) (cr := noR) XGoD_ok (noR_ok _) mixed (k := 0) Tryd.func32 lookRunD1 rfl ?_
  have h1 := XGoD_ref hw 0 w hl
  have h2 := XGoD_ref hw 0 w hl
  have hin := goFull_in hw 0 w
  have ha := hw.a
  simp only [Tryd.f32, Option.getD_some]
  unfold runD
  obtain ⟨g, hg⟩ : ∃ g, g = goFull n N 0 w := ⟨_, rfl⟩
  rw [← hg] at h1 h2 hin ⊢
  by_cases h0 : 0 ≤ g
  · rw [if_pos h0]
    have hat := cB_get (l := A) (i := g.toNat) (s := 1) (by omega)
    simp (disch := omega) only [go_sem, ↓IntWalk.iteOmega, IntWalk.toNatUp, Nat.reduceEqDiff, Nat.reduceAdd, Nat.reduceMul, Nat.reduceSub, Nat.reduceLT, Nat.reduceLeDiff, Int.reduceToNat, Int.reduceLT, Int.reduceLE, Int.reduceEq, Int.reduceAdd, Int.reduceSub, Int.reduceMul, Int.toNat_natCast, reduceCtorEq, decide_true, decide_false, IntWalk.i64_in, IntWalk.u64_in, IntWalk.u8_in, h1, h2, h0, hat]
  · rw [if_neg h0]
    simp (disch := omega) only [go_sem, ↓IntWalk.iteOmega, IntWalk.toNatUp, Nat.reduceEqDiff, Nat.reduceAdd, Nat.reduceMul, Nat.reduceSub, Nat.reduceLT, Nat.reduceLeDiff, Int.reduceToNat, Int.reduceLT, Int.reduceLE, Int.reduceEq, Int.reduceAdd, Int.reduceSub, Int.reduceMul, Int.toNat_natCast, reduceCtorEq, decide_true, decide_false, IntWalk.i64_in, IntWalk.u64_in, IntWalk.u8_in, h1, h2, h0]
def chkD (n : Nat) (N : List Int) (A : List Bool) : Bool := decide (1 ≤ n ∧ n ≤ 2000 ∧ A.length = n) && N.all (fun x => decide (0 ≤ x ∧ x < (n : Int)))
theorem all_not {p : Int → Bool} {l : List Int} {k : Nat} (hk : k < l.length) (h : p (l.getD k 0) = false) : l.all p = false := by
  rw [← Bool.not_eq_true, List.all_eq_true]
  intro hh
  have := hh (l.getD k 0) (by rw [List.getD_eq_getElem?_getD, List.getElem?_eq_getElem hk]; exact List.getElem_mem ..)
  rw [h] at this; cases this
theorem all_all {p : Int → Bool} {l : List Int} (h : ∀ k, k < l.length → p (l.getD k 0) = true) : l.all p = true := by
  rw [List.all_eq_true]
  intro x hx
  obtain ⟨k, hk, rfl⟩ := List.getElem_of_mem hx
  have := h k hk
  rw [List.getD_eq_getElem?_getD, List.getElem?_eq_getElem hk] at this
  exact this
theorem lookChkR (X) : lookedAt (EX md0 X) (fun _ => none) 1 Tryd.f21 = true := by kernel_rfl
theorem rchk_ok (n : Nat) (N : List Int) (A : List Bool) (hN : N.length = 5 * n) : Ok Tryd.prog 21 [dfaV n N A] (.bool (chkD n N A)) := by
  refine ok_of_WP (E := EX md0 (fun _ _ => none)) (cr := noR) (tab_nil _) (noR_ok _) mixed (k := 2002) Tryd.func21 (lookChkR _) rfl ?_
  simp only [Tryd.f21, Option.getD_some]
  unfold chkD
  by_cases h1 : (n : Int) < 1
  · rw [decide_eq_false (by omega), Bool.false_and]
    simp (disch := omega) only [go_sem, ↓IntWalk.iteOmega, IntWalk.toNatUp, Nat.reduceEqDiff, Nat.reduceAdd, Nat.reduceMul, Nat.reduceSub, Nat.reduceLT, Nat.reduceLeDiff, Int.reduceToNat, Int.reduceLT, Int.reduceLE, Int.reduceEq, Int.reduceAdd, Int.reduceSub, Int.reduceMul, Int.toNat_natCast, reduceCtorEq, decide_true, decide_false, IntWalk.i64_in, IntWalk.u64_in, IntWalk.u8_in, h1]
  by_cases h2 : (2000 : Int) < n
  · rw [decide_eq_false (by omega), Bool.false_and]
    simp (disch := omega) only [go_sem, ↓IntWalk.iteOmega, IntWalk.toNatUp, Nat.reduceEqDiff, Nat.reduceAdd, Nat.reduceMul, Nat.reduceSub, Nat.reduceLT, Nat.reduceLeDiff, Int.reduceToNat, Int.reduceLT, Int.reduceLE, Int.reduceEq, Int.reduceAdd, Int.reduceSub, Int.reduceMul, Int.toNat_natCast, reduceCtorEq, decide_true, decide_false, IntWalk.i64_in, IntWalk.u64_in, IntWalk.u8_in, h1, h2]
  by_cases h3' : ¬ (A.length : Int) = n
  · have h3 := h3'
    rw [decide_eq_false (by omega), Bool.false_and]
    simp (disch := omega) only [go_sem, ↓IntWalk.iteOmega, IntWalk.toNatUp, Nat.reduceEqDiff, Nat.reduceAdd, Nat.reduceMul, Nat.reduceSub, Nat.reduceLT, Nat.reduceLeDiff, Int.reduceToNat, Int.reduceLT, Int.reduceLE, Int.reduceEq, Int.reduceAdd, Int.reduceSub, Int.reduceMul, Int.toNat_natCast, reduceCtorEq, decide_true, decide_false, IntWalk.i64_in, IntWalk.u64_in, IntWalk.u8_in, h1, h2, h3]
  have h3 : (A.length : Int) = n := Decidable.not_not.1 h3'
  rw [decide_eq_true (by omega), Bool.true_and]
  simp (disch := omega) only [go_sem, ↓IntWalk.iteOmega, IntWalk.toNatUp, Nat.reduceEqDiff, Nat.reduceAdd, Nat.reduceMul, Nat.reduceSub, Nat.reduceLT, Nat.reduceLeDiff, Int.reduceToNat, Int.reduceLT, Int.reduceLE, Int.reduceEq, Int.reduceAdd, Int.reduceSub, Int.reduceMul, Int.toNat_natCast, reduceCtorEq, decide_true, decide_false, IntWalk.i64_in, IntWalk.u64_in, IntWalk.u8_in, h1, h2, h3]
  refine WP_loop (fun m a o nx => ∃ i : Nat, i ≤ n ∧ m = n - i ∧ (∀ k, k < i * 5 → decide (0 ≤ N.getD k 0 ∧ N.getD k 0 < (n : Int)) = true) ∧ a 1 = .ptr (0, 1) (0, 1) 0 ∧ a 3 = .int .i64 n ∧ a 4 = .int .i64 i ∧ o (0, 1) = some (.row ⟨27, 1, (0, 1), false, true, [.sl n (cI N), slB A]⟩)) n (by omega) ⟨0, by omega, by omega, fun k hk => by omega, by simp (disch := omega) only [go_sem, ↓IntWalk.iteOmega, IntWalk.toNatUp, Nat.reduceEqDiff, Nat.reduceAdd, Nat.reduceMul, Nat.reduceSub, Nat.reduceLT, Nat.reduceLeDiff, Int.reduceToNat, Int.reduceLT, Int.reduceLE, Int.reduceEq, Int.reduceAdd, Int.reduceSub, Int.reduceMul, Int.toNat_natCast, reduceCtorEq, decide_true, decide_false, IntWalk.i64_in, IntWalk.u64_in, IntWalk.u8_in], by simp (disch := omega) only [go_sem, ↓IntWalk.iteOmega, IntWalk.toNatUp, Nat.reduceEqDiff, Nat.reduceAdd, Nat.reduceMul, Nat.reduceSub, Nat.reduceLT, Nat.reduceLeDiff, Int.reduceToNat, Int.reduceLT, Int.reduceLE, Int.reduceEq, Int.reduceAdd, Int.reduceSub, Int.reduceMul, Int.toNat_natCast, reduceCtorEq, decide_true, decide_false, IntWalk.i64_in, IntWalk.u64_in, IntWalk.u8_in], by simp (disch := omega) only [go_sem, ↓IntWalk.iteOmega, IntWalk.toNatUp, Nat.reduceEqDiff, Nat.reduceAdd, Nat.reduceMul, Nat.reduceSub, Nat.reduceLT, Nat.reduceLeDiff, Int.reduceToNat, Int.reduceLT, Int.reduceLE, Int.reduceEq, Int.reduceAdd, Int.reduceSub, Int.reduceMul, Int.toNat_natCast, reduceCtorEq, decide_true, decide_false, IntWalk.i64_in, IntWalk.u64_in, IntWalk.u8_in], by simp [upd_app]⟩ ?_
  rintro m a o nx ⟨i, hi, rfl, hall, ha1, ha3, ha4, o1⟩
  by_cases hlt : i < n
  · simp (disch := omega) only [go_sem, ↓IntWalk.iteOmega, IntWalk.toNatUp, Nat.reduceEqDiff, Nat.reduceAdd, Nat.reduceMul, Nat.reduceSub, Nat.reduceLT, Nat.reduceLeDiff, Int.reduceToNat, Int.reduceLT, Int.reduceLE, Int.reduceEq, Int.reduceAdd, Int.reduceSub, Int.reduceMul, Int.toNat_natCast, reduceCtorEq, decide_true, decide_false, IntWalk.i64_in, IntWalk.u64_in, IntWalk.u8_in, ha1, ha3, ha4, o1]
    refine WP_loop (fun m' a o' nx => ∃ j : Nat, j ≤ 5 ∧ m' = 5 - j ∧ (∀ k, k < i * 5 + j → decide (0 ≤ N.getD k 0 ∧ N.getD k 0 < (n : Int)) = true) ∧ a 1 = .ptr (0, 1) (0, 1) 0 ∧ a 3 = .int .i64 n ∧ a 4 = .int .i64 i ∧ a 5 = .int .i64 j ∧ o' = o) 5 (by omega) ⟨0, by omega, by omega, hall, by simp (disch := omega) only [go_sem, ↓IntWalk.iteOmega, IntWalk.toNatUp, Nat.reduceEqDiff, Nat.reduceAdd, Nat.reduceMul, Nat.reduceSub, Nat.reduceLT, Nat.reduceLeDiff, Int.reduceToNat, Int.reduceLT, Int.reduceLE, Int.reduceEq, Int.reduceAdd, Int.reduceSub, Int.reduceMul, Int.toNat_natCast, reduceCtorEq, decide_true, decide_false, IntWalk.i64_in, IntWalk.u64_in, IntWalk.u8_in, ha1], by simp (disch := omega) only [go_sem, ↓IntWalk.iteOmega, IntWalk.toNatUp, Nat.reduceEqDiff, Nat.reduceAdd, Nat.reduceMul, Nat.reduceSub, Nat.reduceLT, Nat.reduceLeDiff, Int.reduceToNat, Int.reduceLT, Int.reduceLE, Int.reduceEq, Int.reduceAdd, Int.reduceSub, Int.reduceMul, Int.toNat_natCast, reduceCtorEq, decide_true, decide_false, IntWalk.i64_in, IntWalk.u64_in, IntWalk.u8_in, ha3], by simp (disch := omega) only [go_sem, ↓IntWalk.iteOmega, IntWalk.toNatUp, Nat.reduceEqDiff, Nat.reduceAdd, Nat.reduceMul, Nat.reduceSub, Nat.reduceLT, Nat.reduceLeDiff, Int.reduceToNat, Int.reduceLT, Int.reduceLE, Int.reduceEq, Int.reduceAdd, Int.reduceSub, Int.reduceMul, Int.toNat_natCast, reduceCtorEq, decide_true, decide_false, IntWalk.i64_in, IntWalk.u64_in, IntWalk.u8_in, ha4], by simp (disch := omega) only [go_sem, ↓IntWalk.iteOmega, IntWalk.toNatUp, Nat.reduceEqDiff, Nat.reduceAdd, Nat.reduceMul, Nat.reduceSub, Nat.reduceLT, Nat.reduceLeDiff, Int.reduceToNat, Int.reduceLT, Int.reduceLE, Int.reduceEq, Int.reduceAdd, Int.reduceSub, Int.reduceMul, Int.toNat_natCast, reduceCtorEq, decide_true, decide_false, IntWalk.i64_in, IntWalk.u64_in, IntWalk.u8_in], rfl⟩ ?_
    rintro m' a o' nx ⟨j, hj, rfl, hall, ha1, ha3, ha4, ha5, rfl⟩
    by_cases hj5 : j < 5
    · have hk : i * 5 + j < N.length := by omega
      have hat : take1 false 1 (((cI N).drop (i * 5)).drop j) = some (.int .i64 (N.getD (i * 5 + j) 0)) := by
        rw [List.drop_drop]; exact cI_get hk
      obtain ⟨x, hx⟩ : ∃ x, x = N.getD (i * 5 + j) 0 := ⟨_, rfl⟩
      rw [← hx] at hat
      by_cases hx0 : x < 0
      · rw [all_not hk (by rw [← hx, decide_eq_false_iff_not]; omega)]
        simp (disch := omega) only [go_sem, ↓IntWalk.iteOmega, IntWalk.toNatUp, Nat.reduceEqDiff, Nat.reduceAdd, Nat.reduceMul, Nat.reduceSub, Nat.reduceLT, Nat.reduceLeDiff, Int.reduceToNat, Int.reduceLT, Int.reduceLE, Int.reduceEq, Int.reduceAdd, Int.reduceSub, Int.reduceMul, Int.toNat_natCast, reduceCtorEq, decide_true, decide_false, IntWalk.i64_in, IntWalk.u64_in, IntWalk.u8_in, ha1, ha3, ha4, ha5, o1, hat, hx0]
      · by_cases hxn : (n : Int) ≤ x
        · rw [all_not hk (by rw [← hx, decide_eq_false_iff_not]; omega)]
          simp (disch := omega) only [go_sem, ↓IntWalk.iteOmega, IntWalk.toNatUp, Nat.reduceEqDiff, Nat.reduceAdd, Nat.reduceMul, Nat.reduceSub, Nat.reduceLT, Nat.reduceLeDiff, Int.reduceToNat, Int.reduceLT, Int.reduceLE, Int.reduceEq, Int.reduceAdd, Int.reduceSub, Int.reduceMul, Int.toNat_natCast, reduceCtorEq, decide_true, decide_false, IntWalk.i64_in, IntWalk.u64_in, IntWalk.u8_in, ha1, ha3, ha4, ha5, o1, hat, hx0, hxn]
        · simp (disch := omega) only [go_sem, ↓IntWalk.iteOmega, IntWalk.toNatUp, Nat.reduceEqDiff, Nat.reduceAdd, Nat.reduceMul, Nat.reduceSub, Nat.reduceLT, Nat.reduceLeDiff, Int.reduceToNat, Int.reduceLT, Int.reduceLE, Int.reduceEq, Int.reduceAdd, Int.reduceSub, Int.reduceMul, Int.toNat_natCast, reduceCtorEq, decide_true, decide_false, IntWalk.i64_in, IntWalk.u64_in, IntWalk.u8_in, ha1, ha3, ha4, ha5, o1, hat, hx0, hxn]
          refine ⟨_, by omega, j + 1, by omega, rfl, fun k hk' => ?_, rfl⟩
          by_cases hke : k = i * 5 + j
          · rw [hke, ← hx, decide_eq_true_eq]; omega
          · exact hall k (by omega)
    · have hj' : j = 5 := by omega
      simp (disch := omega) only [go_sem, ↓IntWalk.iteOmega, IntWalk.toNatUp, Nat.reduceEqDiff, Nat.reduceAdd, Nat.reduceMul, Nat.reduceSub, Nat.reduceLT, Nat.reduceLeDiff, Int.reduceToNat, Int.reduceLT, Int.reduceLE, Int.reduceEq, Int.reduceAdd, Int.reduceSub, Int.reduceMul, Int.toNat_natCast, reduceCtorEq, decide_true, decide_false, IntWalk.i64_in, IntWalk.u64_in, IntWalk.u8_in, ha1, ha3, ha4, ha5, o1]
      exact ⟨_, by omega, i + 1, by omega, rfl, fun k hk => hall k (by omega), rfl⟩
  · rw [all_all (fun k hk => hall k (by omega))]
    simp (disch := omega) only [go_sem, ↓IntWalk.iteOmega, IntWalk.toNatUp, Nat.reduceEqDiff, Nat.reduceAdd, Nat.reduceMul, Nat.reduceSub, Nat.reduceLT, Nat.reduceLeDiff, Int.reduceToNat, Int.reduceLT, Int.reduceLE, Int.reduceEq, Int.reduceAdd, Int.reduceSub, Int.reduceMul, Int.toNat_natCast, reduceCtorEq, decide_true, decide_false, IntWalk.i64_in, IntWalk.u64_in, IntWalk.u8_in, ha1, ha3, ha4, o1]
end Go.Proofs.YtpmjpogcaglphaaDoor.A
/- Whether machines are steady: the program, the document. -/
namespace Go.Proofs.YtpmjpogcaglphaaDoor.A
open Go
set_option maxRecDepth 20000
theorem steady_no {n N k} (hk : k < 5 * n) (h : ¬ N.getD ((N.getD k 0).toNat * 5 + k % 5) 0 = N.getD k 0) : steadyM n N = false := by
  rw [← Bool.not_eq_true]
  exact fun hs => h (steady_at hs hk)
theorem steady_yes {n N} (h : ∀ k, k < n * 5 → N.getD ((N.getD k 0).toNat * 5 + k % 5) 0 = N.getD k 0) : steadyM n N = true := by
  rw [steadyM, List.all_eq_true]
  exact fun k hk => decide_eq_true (h k (by have := List.mem_range.1 hk; omega))
theorem row_facts {N : List Int} {n i : Nat} (hN : N.length = 5 * n) (hlt : i < n) : ∃ row, ((cI N).drop (i * 5)).take 5 = row ∧ (∀ j, j < 5 → take1 false 1 (row.drop j) = some (.int .i64 (N.getD (i * 5 + j) 0))) ∧ row.length = 5 ∧ row.all cellOk = true ∧ row.take 5 = row ∧ ((cI N).drop (i * 5)).length = N.length - i * 5 := by
  have hl5 : ((cI N).drop (i * 5)).length = N.length - i * 5 := by rw [List.length_drop, cI_length]
  have htl : (((cI N).drop (i * 5)).take 5).length = 5 := by rw [List.length_take, hl5]; omega
  refine ⟨_, rfl, fun j hj => ?_, htl, by rw [cI_drop, cI_take]; exact cI_ok _, take_len htl, hl5⟩
  rw [List.drop_take, List.drop_drop]
  have hk : i * 5 + j < N.length := by omega
  have := cI_get (s := 1) hk
  cases hd : (cI N).drop (i * 5 + j) with
  | nil => rw [hd] at this; cases this
  | cons y l =>
    rw [hd] at this
    obtain ⟨d, hd'⟩ : ∃ d, 5 - j = d + 1 := ⟨4 - j, by omega⟩
    rw [hd']
    exact this
theorem lookStM (X) : lookedAt (EX md0 X) (fun _ => none) 1 Tryd.f19 = true := by kernel_rfl
theorem lookStR (X) : lookedAt (EX md0 X) (fun _ => none) 1 Tryd.f20 = true := by kernel_rfl
theorem mst_ok {n : Nat} {N : List Int} {A : List Bool} (hw : WfD n N A) : Ok Tryd.prog 19 [dfaV n N A] (.bool (steadyM n N)) := by
  refine ok_of_WP (E := EX md0 (fun _ _ => none)) (cr := noR) (tab_nil _) (noR_ok _) mixed (k := 2002) Tryd.func19 (lookStM _) rfl ?_
  have hn := hw.sz
  have hN := hw.l
  simp only [Tryd.f19, Option.getD_some]
  simp (disch := omega) only [go_sem, ↓IntWalk.iteOmega, IntWalk.toNatUp, Nat.reduceEqDiff, Nat.reduceAdd, Nat.reduceMul, Nat.reduceSub, Nat.reduceLT, Nat.reduceLeDiff, Int.reduceToNat, Int.reduceLT, Int.reduceLE, Int.reduceEq, Int.reduceAdd, Int.reduceSub, Int.reduceMul, Int.toNat_natCast, reduceCtorEq, decide_true, decide_false, IntWalk.i64_in, IntWalk.u64_in, IntWalk.u8_in]
  refine WP_loop (fun m a o nx => ∃ i : Nat, i ≤ n ∧ m = n - i ∧ 1 ≤ nx ∧ (∀ k, k < i * 5 → N.getD ((N.getD k 0).toNat * 5 + k % 5) 0 = N.getD k 0) ∧ a 1 = .ptr (0, 1) (0, 1) 0 ∧ a 8 = .sl n (cI N) ∧ a 9 = .int .i64 n ∧ a 10 = .int .i64 i ∧ o (0, 1) = some (.row ⟨27, 1, (0, 1), false, true, [.sl n (cI N), slB A]⟩)) n (by omega) ⟨0, by omega, by omega, by omega, fun k hk => by omega, by simp (disch := omega) only [go_sem, ↓IntWalk.iteOmega, IntWalk.toNatUp, Nat.reduceEqDiff, Nat.reduceAdd, Nat.reduceMul, Nat.reduceSub, Nat.reduceLT, Nat.reduceLeDiff, Int.reduceToNat, Int.reduceLT, Int.reduceLE, Int.reduceEq, Int.reduceAdd, Int.reduceSub, Int.reduceMul, Int.toNat_natCast, reduceCtorEq, decide_true, decide_false, IntWalk.i64_in, IntWalk.u64_in, IntWalk.u8_in], by simp (disch := omega) only [go_sem, ↓IntWalk.iteOmega, IntWalk.toNatUp, Nat.reduceEqDiff, Nat.reduceAdd, Nat.reduceMul, Nat.reduceSub, Nat.reduceLT, Nat.reduceLeDiff, Int.reduceToNat, Int.reduceLT, Int.reduceLE, Int.reduceEq, Int.reduceAdd, Int.reduceSub, Int.reduceMul, Int.toNat_natCast, reduceCtorEq, decide_true, decide_false, IntWalk.i64_in, IntWalk.u64_in, IntWalk.u8_in], by simp (disch := omega) only [go_sem, ↓IntWalk.iteOmega, IntWalk.toNatUp, Nat.reduceEqDiff, Nat.reduceAdd, Nat.reduceMul, Nat.reduceSub, Nat.reduceLT, Nat.reduceLeDiff, Int.reduceToNat, Int.reduceLT, Int.reduceLE, Int.reduceEq, Int.reduceAdd, Int.reduceSub, Int.reduceMul, Int.toNat_natCast, reduceCtorEq, decide_true, decide_false, IntWalk.i64_in, IntWalk.u64_in, IntWalk.u8_in], by simp (disch := omega) only [go_sem, ↓IntWalk.iteOmega, IntWalk.toNatUp, Nat.reduceEqDiff, Nat.reduceAdd, Nat.reduceMul, Nat.reduceSub, Nat.reduceLT, Nat.reduceLeDiff, Int.reduceToNat, Int.reduceLT, Int.reduceLE, Int.reduceEq, Int.reduceAdd, Int.reduceSub, Int.reduceMul, Int.toNat_natCast, reduceCtorEq, decide_true, decide_false, IntWalk.i64_in, IntWalk.u64_in, IntWalk.u8_in], by simp [upd_app]⟩ ?_
  rintro m a o nx ⟨i, hi, rfl, hnx, hall, ha1, ha8, ha9, ha10, o1⟩
  by_cases hlt : i < n
  · obtain ⟨row, hrw', hrow, htl, hok, htt, hl5⟩ := row_facts hN hlt
    simp (disch := omega) only [go_sem, ↓IntWalk.iteOmega, IntWalk.toNatUp, Nat.reduceEqDiff, Nat.reduceAdd, Nat.reduceMul, Nat.reduceSub, Nat.reduceLT, Nat.reduceLeDiff, Int.reduceToNat, Int.reduceLT, Int.reduceLE, Int.reduceEq, Int.reduceAdd, Int.reduceSub, Int.reduceMul, Int.toNat_natCast, reduceCtorEq, decide_true, decide_false, IntWalk.i64_in, IntWalk.u64_in, IntWalk.u8_in, ha1, ha8, ha9, ha10, o1, hl5, hrw', htl, hok, htt]
    refine WP_loop (fun m' a o nx => ∃ j : Nat, j ≤ 5 ∧ m' = 5 - j ∧ 1 ≤ nx ∧ (∀ k, k < i * 5 + j → N.getD ((N.getD k 0).toNat * 5 + k % 5) 0 = N.getD k 0) ∧ a 1 = .ptr (0, 1) (0, 1) 0 ∧ a 8 = .sl n (cI N) ∧ a 9 = .int .i64 n ∧ a 10 = .int .i64 i ∧ a 14 = .agg row ∧ a 15 = .int .i64 j ∧ o (0, 1) = some (.row ⟨27, 1, (0, 1), false, true, [.sl n (cI N), slB A]⟩)) 5 (by omega) ⟨0, by omega, by omega, by omega, hall, by simp (disch := omega) only [go_sem, ↓IntWalk.iteOmega, IntWalk.toNatUp, Nat.reduceEqDiff, Nat.reduceAdd, Nat.reduceMul, Nat.reduceSub, Nat.reduceLT, Nat.reduceLeDiff, Int.reduceToNat, Int.reduceLT, Int.reduceLE, Int.reduceEq, Int.reduceAdd, Int.reduceSub, Int.reduceMul, Int.toNat_natCast, reduceCtorEq, decide_true, decide_false, IntWalk.i64_in, IntWalk.u64_in, IntWalk.u8_in, ha1], by simp (disch := omega) only [go_sem, ↓IntWalk.iteOmega, IntWalk.toNatUp, Nat.reduceEqDiff, Nat.reduceAdd, Nat.reduceMul, Nat.reduceSub, Nat.reduceLT, Nat.reduceLeDiff, Int.reduceToNat, Int.reduceLT, Int.reduceLE, Int.reduceEq, Int.reduceAdd, Int.reduceSub, Int.reduceMul, Int.toNat_natCast, reduceCtorEq, decide_true, decide_false, IntWalk.i64_in, IntWalk.u64_in, IntWalk.u8_in, ha8], by simp (disch := omega) only [go_sem, ↓IntWalk.iteOmega, IntWalk.toNatUp, Nat.reduceEqDiff, Nat.reduceAdd, Nat.reduceMul, Nat.reduceSub, Nat.reduceLT, Nat.reduceLeDiff, Int.reduceToNat, Int.reduceLT, Int.reduceLE, Int.reduceEq, Int.reduceAdd, Int.reduceSub, Int.reduceMul, Int.toNat_natCast, reduceCtorEq, decide_true, decide_false, IntWalk.i64_in, IntWalk.u64_in, IntWalk.u8_in, ha9], by simp (disch := omega) only [go_sem, ↓IntWalk.iteOmega, IntWalk.toNatUp, Nat.reduceEqDiff, Nat.reduceAdd, Nat.reduceMul, Nat.reduceSub, Nat.reduceLT, Nat.reduceLeDiff, Int.reduceToNat, Int.reduceLT, Int.reduceLE, Int.reduceEq, Int.reduceAdd, Int.reduceSub, Int.reduceMul, Int.toNat_natCast, reduceCtorEq, decide_true, decide_false, IntWalk.i64_in, IntWalk.u64_in, IntWalk.u8_in, ha10], by simp (disch := omega) only [go_sem, ↓IntWalk.iteOmega, IntWalk.toNatUp, Nat.reduceEqDiff, Nat.reduceAdd, Nat.reduceMul, Nat.reduceSub, Nat.reduceLT, Nat.reduceLeDiff, Int.reduceToNat, Int.reduceLT, Int.reduceLE, Int.reduceEq, Int.reduceAdd, Int.reduceSub, Int.reduceMul, Int.toNat_natCast, reduceCtorEq, decide_true, decide_false, IntWalk.i64_in, IntWalk.u64_in, IntWalk.u8_in], by simp (disch := omega) only [go_sem, ↓IntWalk.iteOmega, IntWalk.toNatUp, Nat.reduceEqDiff, Nat.reduceAdd, Nat.reduceMul, Nat.reduceSub, Nat.reduceLT, Nat.reduceLeDiff, Int.reduceToNat, Int.reduceLT, Int.reduceLE, Int.reduceEq, Int.reduceAdd, Int.reduceSub, Int.reduceMul, Int.toNat_natCast, reduceCtorEq, decide_true, decide_false, IntWalk.i64_in, IntWalk.u64_in, IntWalk.u8_in], by simp (disch := omega) [upd_fst, o1]⟩ ?_
    clear ha1 ha8 ha9 ha10 o1 hnx
    rintro m' a o nx ⟨j, hj, rfl, hnx, hall, ha1, ha8, ha9, ha10, ha14, ha15, o1⟩
    by_cases hj5 : j < 5
    · have hat := hrow j hj5
      have hg := hw.get (k := i * 5 + j) (by omega)
      obtain ⟨x, hx⟩ : ∃ x, x = N.getD (i * 5 + j) 0 := ⟨_, rfl⟩
      rw [← hx] at hat hg
      have hk2 : x.toNat * 5 + j < N.length := by omega
      have hat2 : take1 false 1 (((cI N).drop (x.toNat * 5)).drop j) = some (.int .i64 (N.getD (x.toNat * 5 + j) 0)) := by
        rw [List.drop_drop]; exact cI_get hk2
      obtain ⟨y, hy⟩ : ∃ y, y = N.getD (x.toNat * 5 + j) 0 := ⟨_, rfl⟩
      rw [← hy] at hat2
      have hmod : (i * 5 + j) % 5 = j := by omega
      by_cases hxy : y = x
      · simp (disch := omega) only [go_sem, ↓IntWalk.iteOmega, IntWalk.toNatUp, Nat.reduceEqDiff, Nat.reduceAdd, Nat.reduceMul, Nat.reduceSub, Nat.reduceLT, Nat.reduceLeDiff, Int.reduceToNat, Int.reduceLT, Int.reduceLE, Int.reduceEq, Int.reduceAdd, Int.reduceSub, Int.reduceMul, Int.toNat_natCast, reduceCtorEq, decide_true, decide_false, IntWalk.i64_in, IntWalk.u64_in, IntWalk.u8_in, ha1, ha8, ha9, ha10, ha14, ha15, o1, hat, hat2, hxy]
        refine ⟨_, by omega, j + 1, by omega, rfl, fun k hk' => ?_, rfl⟩
        by_cases hke : k = i * 5 + j
        · rw [hke, hmod, ← hx, ← hy, hxy]
        · exact hall k (by omega)
      · rw [steady_no (n := n) (N := N) (k := i * 5 + j) (by omega) (by rw [hmod, ← hx, ← hy]; exact hxy)]
        simp (disch := omega) only [go_sem, ↓IntWalk.iteOmega, IntWalk.toNatUp, Nat.reduceEqDiff, Nat.reduceAdd, Nat.reduceMul, Nat.reduceSub, Nat.reduceLT, Nat.reduceLeDiff, Int.reduceToNat, Int.reduceLT, Int.reduceLE, Int.reduceEq, Int.reduceAdd, Int.reduceSub, Int.reduceMul, Int.toNat_natCast, reduceCtorEq, decide_true, decide_false, IntWalk.i64_in, IntWalk.u64_in, IntWalk.u8_in, ha1, ha8, ha9, ha10, ha14, ha15, o1, hat, hat2, hxy]
    · have hj' : j = 5 := by omega
      simp (disch := omega) only [go_sem, ↓IntWalk.iteOmega, IntWalk.toNatUp, Nat.reduceEqDiff, Nat.reduceAdd, Nat.reduceMul, Nat.reduceSub, Nat.reduceLT, Nat.reduceLeDiff, Int.reduceToNat, Int.reduceLT, Int.reduceLE, Int.reduceEq, Int.reduceAdd, Int.reduceSub, Int.reduceMul, Int.toNat_natCast, reduceCtorEq, decide_true, decide_false, IntWalk.i64_in, IntWalk.u64_in, IntWalk.u8_in, ha1, ha8, ha9, ha10, ha14, ha15, o1]
      exact ⟨_, by omega, i + 1, by omega, rfl, fun k hk => hall k (by omega), rfl⟩
  · rw [steady_yes (fun k hk => hall k (by omega))]
    simp (disch := omega) only [go_sem, ↓IntWalk.iteOmega, IntWalk.toNatUp, Nat.reduceEqDiff, Nat.reduceAdd, Nat.reduceMul, Nat.reduceSub, Nat.reduceLT, Nat.reduceLeDiff, Int.reduceToNat, Int.reduceLT, Int.reduceLE, Int.reduceEq, Int.reduceAdd, Int.reduceSub, Int.reduceMul, Int.toNat_natCast, reduceCtorEq, decide_true, decide_false, IntWalk.i64_in, IntWalk.u64_in, IntWalk.u8_in, ha1, ha8, ha9, ha10, o1]
theorem rst_ok {n : Nat} {N : List Int} {A : List Bool} (hw : WfD n N A) : Ok Tryd.prog 20 [dfaV n N A] (.bool (steadyM n N)) := by
  refine ok_of_WP (E := EX md0 (fun _ _ => none)) (cr := noR) (tab_nil _) (noR_ok _) mixed (k := 2002) Tryd.func20 (lookStR _) rfl ?_
  have hn := hw.sz
  have hN := hw.l
  simp only [Tryd.f20, Option.getD_some]
  simp (disch := omega) only [go_sem, ↓IntWalk.iteOmega, IntWalk.toNatUp, Nat.reduceEqDiff, Nat.reduceAdd, Nat.reduceMul, Nat.reduceSub, Nat.reduceLT, Nat.reduceLeDiff, Int.reduceToNat, Int.reduceLT, Int.reduceLE, Int.reduceEq, Int.reduceAdd, Int.reduceSub, Int.reduceMul, Int.toNat_natCast, reduceCtorEq, decide_true, decide_false, IntWalk.i64_in, IntWalk.u64_in, IntWalk.u8_in]
  refine WP_loop (fun m a o nx => ∃ i : Nat, i ≤ n ∧ m = n - i ∧ (∀ k, k < i * 5 → N.getD ((N.getD k 0).toNat * 5 + k % 5) 0 = N.getD k 0) ∧ a 1 = .ptr (0, 1) (0, 1) 0 ∧ a 3 = .int .i64 i ∧ o (0, 1) = some (.row ⟨27, 1, (0, 1), false, true, [.sl n (cI N), slB A]⟩)) n (by omega) ⟨0, by omega, by omega, fun k hk => by omega, by simp (disch := omega) only [go_sem, ↓IntWalk.iteOmega, IntWalk.toNatUp, Nat.reduceEqDiff, Nat.reduceAdd, Nat.reduceMul, Nat.reduceSub, Nat.reduceLT, Nat.reduceLeDiff, Int.reduceToNat, Int.reduceLT, Int.reduceLE, Int.reduceEq, Int.reduceAdd, Int.reduceSub, Int.reduceMul, Int.toNat_natCast, reduceCtorEq, decide_true, decide_false, IntWalk.i64_in, IntWalk.u64_in, IntWalk.u8_in], by simp (disch := omega) only [go_sem, ↓IntWalk.iteOmega, IntWalk.toNatUp, Nat.reduceEqDiff, Nat.reduceAdd, Nat.reduceMul, Nat.reduceSub, Nat.reduceLT, Nat.reduceLeDiff, Int.reduceToNat, Int.reduceLT, Int.reduceLE, Int.reduceEq, Int.reduceAdd, Int.reduceSub, Int.reduceMul, Int.toNat_natCast, reduceCtorEq, decide_true, decide_false, IntWalk.i64_in, IntWalk.u64_in, IntWalk.u8_in], by simp [upd_app]⟩ ?_
  rintro m a o nx ⟨i, hi, rfl, hall, ha1, ha3, o1⟩
  by_cases hlt : i < n
  · simp (disch := omega) only [go_sem, ↓IntWalk.iteOmega, IntWalk.toNatUp, Nat.reduceEqDiff, Nat.reduceAdd, Nat.reduceMul, Nat.reduceSub, Nat.reduceLT, Nat.reduceLeDiff, Int.reduceToNat, Int.reduceLT, Int.reduceLE, Int.reduceEq, Int.reduceAdd, Int.reduceSub, Int.reduceMul, Int.toNat_natCast, reduceCtorEq, decide_true, decide_false, IntWalk.i64_in, IntWalk.u64_in, IntWalk.u8_in, ha1, ha3, o1]
    refine WP_loop (fun m' a o' nx => ∃ j : Nat, j ≤ 5 ∧ m' = 5 - j ∧ (∀ k, k < i * 5 + j → N.getD ((N.getD k 0).toNat * 5 + k % 5) 0 = N.getD k 0) ∧ a 1 = .ptr (0, 1) (0, 1) 0 ∧ a 3 = .int .i64 i ∧ a 4 = .int .i64 j ∧ o' = o) 5 (by omega) ⟨0, by omega, by omega, hall, by simp (disch := omega) only [go_sem, ↓IntWalk.iteOmega, IntWalk.toNatUp, Nat.reduceEqDiff, Nat.reduceAdd, Nat.reduceMul, Nat.reduceSub, Nat.reduceLT, Nat.reduceLeDiff, Int.reduceToNat, Int.reduceLT, Int.reduceLE, Int.reduceEq, Int.reduceAdd, Int.reduceSub, Int.reduceMul, Int.toNat_natCast, reduceCtorEq, decide_true, decide_false, IntWalk.i64_in, IntWalk.u64_in, IntWalk.u8_in, ha1], by simp (disch := omega) only [go_sem, ↓IntWalk.iteOmega, IntWalk.toNatUp, Nat.reduceEqDiff, Nat.reduceAdd, Nat.reduceMul, Nat.reduceSub, Nat.reduceLT, Nat.reduceLeDiff, Int.reduceToNat, Int.reduceLT, Int.reduceLE, Int.reduceEq, Int.reduceAdd, Int.reduceSub, Int.reduceMul, Int.toNat_natCast, reduceCtorEq, decide_true, decide_false, IntWalk.i64_in, IntWalk.u64_in, IntWalk.u8_in, ha3], by simp (disch := omega) only [go_sem, ↓IntWalk.iteOmega, IntWalk.toNatUp, Nat.reduceEqDiff, Nat.reduceAdd, Nat.reduceMul, Nat.reduceSub, Nat.reduceLT, Nat.reduceLeDiff, Int.reduceToNat, Int.reduceLT, Int.reduceLE, Int.reduceEq, Int.reduceAdd, Int.reduceSub, Int.reduceMul, Int.toNat_natCast, reduceCtorEq, decide_true, decide_false, IntWalk.i64_in, IntWalk.u64_in, IntWalk.u8_in], rfl⟩ ?_
    rintro m' a o' nx ⟨j, hj, rfl, hall, ha1, ha3, ha4, rfl⟩
    by_cases hj5 : j < 5
    · have hk : i * 5 + j < N.length := by omega
      have hat : take1 false 1 (((cI N).drop (i * 5)).drop j) = some (.int .i64 (N.getD (i * 5 + j) 0)) := by
        rw [List.drop_drop]; exact cI_get hk
      have hg := hw.get (k := i * 5 + j) (by omega)
      obtain ⟨x, hx⟩ : ∃ x, x = N.getD (i * 5 + j) 0 := ⟨_, rfl⟩
      rw [← hx] at hat hg
      have hk2 : x.toNat * 5 + j < N.length := by omega
      have hat2 : take1 false 1 (((cI N).drop (x.toNat * 5)).drop j) = some (.int .i64 (N.getD (x.toNat * 5 + j) 0)) := by
        rw [List.drop_drop]; exact cI_get hk2
      obtain ⟨y, hy⟩ : ∃ y, y = N.getD (x.toNat * 5 + j) 0 := ⟨_, rfl⟩
      rw [← hy] at hat2
      have hmod : (i * 5 + j) % 5 = j := by omega
      by_cases hxy : y = x
      · simp (disch := omega) only [go_sem, ↓IntWalk.iteOmega, IntWalk.toNatUp, Nat.reduceEqDiff, Nat.reduceAdd, Nat.reduceMul, Nat.reduceSub, Nat.reduceLT, Nat.reduceLeDiff, Int.reduceToNat, Int.reduceLT, Int.reduceLE, Int.reduceEq, Int.reduceAdd, Int.reduceSub, Int.reduceMul, Int.toNat_natCast, reduceCtorEq, decide_true, decide_false, IntWalk.i64_in, IntWalk.u64_in, IntWalk.u8_in, ha1, ha3, ha4, o1, hat, hat2, hxy]
        refine ⟨_, by omega, j + 1, by omega, rfl, fun k hk' => ?_, rfl⟩
        by_cases hke : k = i * 5 + j
        · rw [hke, hmod, ← hx, ← hy, hxy]
        · exact hall k (by omega)
      · rw [steady_no (n := n) (N := N) (k := i * 5 + j) (by omega) (by rw [hmod, ← hx, ← hy]; exact hxy)]
        simp (disch := omega) only [go_sem, ↓IntWalk.iteOmega, IntWalk.toNatUp, Nat.reduceEqDiff, Nat.reduceAdd, Nat.reduceMul, Nat.reduceSub, Nat.reduceLT, Nat.reduceLeDiff, Int.reduceToNat, Int.reduceLT, Int.reduceLE, Int.reduceEq, Int.reduceAdd, Int.reduceSub, Int.reduceMul, Int.toNat_natCast, reduceCtorEq, decide_true, decide_false, IntWalk.i64_in, IntWalk.u64_in, IntWalk.u8_in, ha1, ha3, ha4, o1, hat, hat2, hxy]
    · have hj' : j = 5 := by omega
      simp (disch := omega) only [go_sem, ↓IntWalk.iteOmega, IntWalk.toNatUp, Nat.reduceEqDiff, Nat.reduceAdd, Nat.reduceMul, Nat.reduceSub, Nat.reduceLT, Nat.reduceLeDiff, Int.reduceToNat, Int.reduceLT, Int.reduceLE, Int.reduceEq, Int.reduceAdd, Int.reduceSub, Int.reduceMul, Int.toNat_natCast, reduceCtorEq, decide_true, decide_false, IntWalk.i64_in, IntWalk.u64_in, IntWalk.u8_in, ha1, ha3, ha4, o1]
      exact ⟨_, by omega, i + 1, by omega, rfl, fun k hk => hall k (by omega), rfl⟩
  · rw [steady_yes (fun k hk => hall k (by omega))]
    simp (disch := omega) only [go_sem, ↓IntWalk.iteOmega, IntWalk.toNatUp, Nat.reduceEqDiff, Nat.reduceAdd, Nat.reduceMul, Nat.reduceSub, Nat.reduceLT, Nat.reduceLeDiff, Int.reduceToNat, Int.reduceLT, Int.reduceLE, Int.reduceEq, Int.reduceAdd, Int.reduceSub, Int.reduceMul, Int.toNat_natCast, reduceCtorEq, decide_true, decide_false, IntWalk.i64_in, IntWalk.u64_in, IntWalk.u8_in, ha1, ha3, o1]
def RStM (args : List AV) (r : AV) : Prop := ∃ (n : Nat) (N : List Int) (A : List Bool), WfD n N A ∧ args = [dfaV n N A] ∧ r = .bool (steadyM n N)
theorem RStM_fn : Fun1 RStM := by
  rintro args r r' ⟨n, N, A, _, rfl, rfl⟩ ⟨n', N', A', _, h, rfl⟩
  simp only [List.cons.injEq, and_true] at h
  obtain ⟨h1, h2, _⟩ := dfaV_inj h
  rw [h1, h2]
theorem RStM_mini (args r) (h : RStM args r) : Ok Tryd.prog 19 args r := by obtain ⟨n, N, A, h1, rfl, rfl⟩ := h; exact mst_ok h1
theorem RStM_ref (args r) (h : RStM args r) : Ok Tryd.prog 20 args r := by obtain ⟨n, N, A, h1, rfl, rfl⟩ := h; exact rst_ok h1
end Go.Proofs.YtpmjpogcaglphaaDoor.A
/- law7.Make: machines of one way, of numbers. -/
namespace Go.Proofs.YtpmjpogcaglphaaDoor.A
open Go
set_option maxRecDepth 20000
def size7 (size : Int) : Nat := (1 + size % 9).toNat
theorem size7_in (size : Int) : 1 ≤ size7 size ∧ size7 size ≤ 9 ∧ (size7 size : Int) = 1 + size % 9 := by
  have h1 := Int.emod_nonneg size (show (9 : Int) ≠ 0 by decide)
  have h2 := Int.emod_lt_of_pos size (show (0 : Int) < 9 by decide)
  unfold size7; omega
/-- Where a state leads by a mode: by number. -/
def ent7 (n : Nat) (ns : List Int) (acc : Int) (k : Nat) : Int := if k < ns.length then ns.getD k 0 % n else IntKind.i64.wrap ((k / 5 : Nat) + IntKind.i64.wrap ((k % 5 : Nat) * acc)) % n
def next7 (n : Nat) (ns : List Int) (acc : Int) (i : Nat) : List Int := (List.range (i * 5)).map (ent7 n ns acc)
def acc7 (acc : Int) (i : Nat) : Bool := decide (acc.fdiv (2 ^ min i 64) % 2 = 1)
def accs7 (acc : Int) (i : Nat) : List Bool := (List.range i).map (acc7 acc)
def row7 (n : Nat) (ns : List Int) (acc : Int) (i m : Nat) : List Int := (List.range 5).map fun j => if j < m then ent7 n ns acc (i * 5 + j) else 0
theorem next7_len (n ns acc i) : (next7 n ns acc i).length = i * 5 := by simp [next7]
theorem accs7_len (acc i) : (accs7 acc i).length = i := by simp [accs7]
theorem row7_len (n ns acc i m) : (row7 n ns acc i m).length = 5 := by simp [row7]
theorem row7_zero (n ns acc i) : row7 n ns acc i 0 = [0, 0, 0, 0, 0] := by simp [row7]; decide
theorem row7_set (n ns acc i) {m : Nat} (h : m < 5) : (row7 n ns acc i m).set m (ent7 n ns acc (i * 5 + m)) = row7 n ns acc i (m + 1) := by
  refine List.ext_getElem (by simp [row7]) fun j h1 h2 => ?_
  simp only [row7, List.getElem_set, List.getElem_map, List.getElem_range]
  by_cases hj : m = j
  · subst hj; simp
  · rw [if_neg hj]
    by_cases hjm : j < m
    · rw [if_pos hjm, if_pos (by omega)]
    · rw [if_neg hjm, if_neg (by omega)]
theorem next7_succ (n ns acc i) : next7 n ns acc (i + 1) = next7 n ns acc i ++ row7 n ns acc i 5 := by
  have : (i + 1) * 5 = i * 5 + 5 := by omega
  rw [next7, this, List.range_add, List.map_append, List.map_map]
  congr 1
theorem accs7_succ (acc i) : accs7 acc (i + 1) = accs7 acc i ++ [acc7 acc i] := by
  rw [accs7, List.range_succ, List.map_append]; rfl
theorem wf7 (size : Int) (ns : List Int) (acc : Int) : WfD (size7 size) (next7 (size7 size) ns acc (size7 size)) (accs7 acc (size7 size)) := by
  obtain ⟨h1, h2, _⟩ := size7_in size
  refine ⟨⟨h1, by omega⟩, by rw [next7_len]; omega, accs7_len .., fun x hx => ?_⟩
  obtain ⟨k, _, rfl⟩ := List.mem_map.1 hx
  have hp : (0 : Int) < size7 size := by omega
  unfold ent7
  split <;> exact ⟨Int.emod_nonneg _ (by omega), Int.emod_lt_of_pos _ hp⟩
noncomputable def XW7 : FuncId → List AV → Option AV := tabLook [(38, tRel RW)]
theorem XW7_ok : CPSound Tryd.prog XW7 := tab_cons (tab_nil _) (tRel_ok within3_ok)
theorem XW7_eq (a n : Int) (h1 : 0 < n) (h2 : n ≤ 1000000) : XW7 38 [.int .i64 a, .int .i64 n] = some (.int .i64 (a % n)) := rw_eq h1 h2
def nz7 (id : Nat) : Option (List (Nat × Nat)) := if id = 15 then some [(1, 4), (1, 8)] else none
theorem HS.of {e sz D o nx j g n cs} (hj : j < nx) (h : o (j, D) = some (.row ⟨e, sz, g, false, true, cs⟩)) (hl : cs.length = n * sz) : HS e sz D o nx (.ref (j, D) g 0 n) n cs := .inr ⟨j, g, rfl, hj, h, hl⟩
theorem HS.of1 {e sz D o nx j g m n cs} (hm : m = n) (hj : j < nx) (h : o (j, D) = some (.row ⟨e, sz, g, false, true, cs⟩)) (hl : cs.length = n * sz) : HS e sz D o nx (.ref (j, D) g 0 m) n cs := by subst hm; exact HS.of hj h hl
theorem look7M (X) : lookedAt (EX md0 X) nz7 3 Tryd.f15 = true := by kernel_rfl
structure Made7 (o0 : Ob) (nx0 : Nat) (n : Nat) (ns : List Int) (acc : Int) (i : Nat) (vN vA : AV) (o : Ob) (nx : Nat) : Prop where
  le : nx0 ≤ nx
  n : HS 54 5 54 o nx vN i (cI (next7 n ns acc i))
  a : HS 4 1 65 o nx vA i (cB (accs7 acc i))
  keep : ∀ i j, i < nx0 → o (i, j) = o0 (i, j)
  ln : ∀ i g k, vN = .ref (i, 54) g 0 k → nx0 ≤ i
  la : ∀ i g k, vA = .ref (i, 65) g 0 k → nx0 ≤ i
theorem make7_wp (cr) (size : Int) (ns : List Int) (acc : Int) (o0 : Ob) (nx0 : Nat) :
    WP (EX md0 XW7) cr 20 nz7 (Tryd.f15.body.getD .skip) (begin_ [.int .i64 size, slI ns, .int .i64 acc]) o0 nx0 (fun u a o nx => u = .ret ∧ ∃ vN vA, Made7 o0 nx0 (size7 size) ns acc (size7 size) vN vA o nx ∧
      a 6 = .ptr (nx0, 6) (nx0, 6) 0 ∧ o (nx0, 6) = some (.row ⟨27, 1, (nx0, 6), false, true, [vN, vA]⟩)) := by
  have hX := XW7_eq
  obtain ⟨hN1, hN9, hsz⟩ := size7_in size
  simp only [Tryd.f15, Option.getD_some]
  generalize size7 size = n at hN1 hN9 hsz
  simp (disch := omega) only [go_sem, ↓IntWalk.iteOmega, IntWalk.toNatUp, Nat.reduceEqDiff, Nat.reduceAdd, Nat.reduceMul, Nat.reduceSub, Nat.reduceLT, Nat.reduceLeDiff, Int.reduceToNat, Int.reduceLT, Int.reduceLE, Int.reduceEq, Int.reduceAdd, Int.reduceSub, Int.reduceMul, Int.toNat_natCast, reduceCtorEq, decide_true, decide_false, IntWalk.i64_in, IntWalk.u64_in, IntWalk.u8_in, nz7, hX, hsz.symm]
  refine WP_loop (fun m a o nx => ∃ i vN vA, i ≤ n ∧ m = n - i ∧ nx0 + 2 ≤ nx ∧ a 1 = slI ns ∧ a 2 = .int .i64 acc ∧ a 6 = .ptr (nx0, 6) (nx0, 6) 0 ∧ a 7 = .ptr (nx0 + 1, 7) (nx0 + 1, 7) 0 ∧ a 8 = .int .i64 n ∧ a 9 = .int .i64 i ∧
    Made7 o0 nx0 n ns acc i vN vA o nx ∧ o (nx0 + 1, 7) = some (.row ⟨27, 1, (nx0 + 1, 7), false, true, [vN, vA]⟩) ∧
    o (nx0, 6) = some (.row ⟨27, 1, (nx0, 6), false, true, [.nil, .nil]⟩)) n (by omega) ⟨0, .nil, .nil, by omega, by omega, by omega, by simp (disch := omega) only [go_sem, ↓IntWalk.iteOmega, IntWalk.toNatUp, Nat.reduceEqDiff, Nat.reduceAdd, Nat.reduceMul, Nat.reduceSub, Nat.reduceLT, Nat.reduceLeDiff, Int.reduceToNat, Int.reduceLT, Int.reduceLE, Int.reduceEq, Int.reduceAdd, Int.reduceSub, Int.reduceMul, Int.toNat_natCast, reduceCtorEq, decide_true, decide_false, IntWalk.i64_in, IntWalk.u64_in, IntWalk.u8_in], by simp (disch := omega) only [go_sem, ↓IntWalk.iteOmega, IntWalk.toNatUp, Nat.reduceEqDiff, Nat.reduceAdd, Nat.reduceMul, Nat.reduceSub, Nat.reduceLT, Nat.reduceLeDiff, Int.reduceToNat, Int.reduceLT, Int.reduceLE, Int.reduceEq, Int.reduceAdd, Int.reduceSub, Int.reduceMul, Int.toNat_natCast, reduceCtorEq, decide_true, decide_false, IntWalk.i64_in, IntWalk.u64_in, IntWalk.u8_in], by simp (disch := omega) only [go_sem, ↓IntWalk.iteOmega, IntWalk.toNatUp, Nat.reduceEqDiff, Nat.reduceAdd, Nat.reduceMul, Nat.reduceSub, Nat.reduceLT, Nat.reduceLeDiff, Int.reduceToNat, Int.reduceLT, Int.reduceLE, Int.reduceEq, Int.reduceAdd, Int.reduceSub, Int.reduceMul, Int.toNat_natCast, reduceCtorEq, decide_true, decide_false, IntWalk.i64_in, IntWalk.u64_in, IntWalk.u8_in], by simp (disch := omega) only [go_sem, ↓IntWalk.iteOmega, IntWalk.toNatUp, Nat.reduceEqDiff, Nat.reduceAdd, Nat.reduceMul, Nat.reduceSub, Nat.reduceLT, Nat.reduceLeDiff, Int.reduceToNat, Int.reduceLT, Int.reduceLE, Int.reduceEq, Int.reduceAdd, Int.reduceSub, Int.reduceMul, Int.toNat_natCast, reduceCtorEq, decide_true, decide_false, IntWalk.i64_in, IntWalk.u64_in, IntWalk.u8_in], by simp (disch := omega) only [go_sem, ↓IntWalk.iteOmega, IntWalk.toNatUp, Nat.reduceEqDiff, Nat.reduceAdd, Nat.reduceMul, Nat.reduceSub, Nat.reduceLT, Nat.reduceLeDiff, Int.reduceToNat, Int.reduceLT, Int.reduceLE, Int.reduceEq, Int.reduceAdd, Int.reduceSub, Int.reduceMul, Int.toNat_natCast, reduceCtorEq, decide_true, decide_false, IntWalk.i64_in, IntWalk.u64_in, IntWalk.u8_in], by simp (disch := omega) only [go_sem, ↓IntWalk.iteOmega, IntWalk.toNatUp, Nat.reduceEqDiff, Nat.reduceAdd, Nat.reduceMul, Nat.reduceSub, Nat.reduceLT, Nat.reduceLeDiff, Int.reduceToNat, Int.reduceLT, Int.reduceLE, Int.reduceEq, Int.reduceAdd, Int.reduceSub, Int.reduceMul, Int.toNat_natCast, reduceCtorEq, decide_true, decide_false, IntWalk.i64_in, IntWalk.u64_in, IntWalk.u8_in], ⟨by omega, HS.nil, HS.nil, fun i j h => by simp (disch := omega) only [upd_fst], fun i g n h => (by cases h), fun i g n h => (by cases h)⟩, by simp [upd_app], by simp [upd_app]⟩ ?_
  rintro m a o nx ⟨i, vN, vA, hi, rfl, hnx, h1, h2, h6, h7, h8, h9, hM, ho7, ho6⟩
  obtain ⟨hle, hHN, hHA, hkeep, hln, hla⟩ := hM
  have hokN := hHN.ok
  have hokA := hHA.ok
  by_cases hlt : i < n
  · simp (disch := omega) only [go_sem, ↓IntWalk.iteOmega, IntWalk.toNatUp, Nat.reduceEqDiff, Nat.reduceAdd, Nat.reduceMul, Nat.reduceSub, Nat.reduceLT, Nat.reduceLeDiff, Int.reduceToNat, Int.reduceLT, Int.reduceLE, Int.reduceEq, Int.reduceAdd, Int.reduceSub, Int.reduceMul, Int.toNat_natCast, reduceCtorEq, decide_true, decide_false, IntWalk.i64_in, IntWalk.u64_in, IntWalk.u8_in, h1, h2, h6, h7, h8, h9, ho7, ho6]
    refine WP_loop (fun m' a o' nx' => ∃ j : Nat, j ≤ 5 ∧ m' = 5 - j ∧ nx + 1 ≤ nx' ∧ a 1 = slI ns ∧ a 2 = .int .i64 acc ∧ a 6 = .ptr (nx0, 6) (nx0, 6) 0 ∧ a 7 = .ptr (nx0 + 1, 7) (nx0 + 1, 7) 0 ∧ a 8 = .int .i64 n ∧ a 9 = .int .i64 i ∧ a 10 = .ptr (nx + 1, 10) (nx + 1, 10) 0 ∧ a 11 = .int .i64 j ∧ o' (nx + 1, 10) = some (.row ⟨54, 1, (nx + 1, 10), false, true, cI (row7 n ns acc i j)⟩) ∧ (∀ i' j', i' < nx → o' (i', j') = o (i', j')) ∧ nx + 2 ≤ nx') 5 (by omega) ⟨0, by omega, by omega, by omega, by simp (disch := omega) only [go_sem, ↓IntWalk.iteOmega, IntWalk.toNatUp, Nat.reduceEqDiff, Nat.reduceAdd, Nat.reduceMul, Nat.reduceSub, Nat.reduceLT, Nat.reduceLeDiff, Int.reduceToNat, Int.reduceLT, Int.reduceLE, Int.reduceEq, Int.reduceAdd, Int.reduceSub, Int.reduceMul, Int.toNat_natCast, reduceCtorEq, decide_true, decide_false, IntWalk.i64_in, IntWalk.u64_in, IntWalk.u8_in, h1], by simp (disch := omega) only [go_sem, ↓IntWalk.iteOmega, IntWalk.toNatUp, Nat.reduceEqDiff, Nat.reduceAdd, Nat.reduceMul, Nat.reduceSub, Nat.reduceLT, Nat.reduceLeDiff, Int.reduceToNat, Int.reduceLT, Int.reduceLE, Int.reduceEq, Int.reduceAdd, Int.reduceSub, Int.reduceMul, Int.toNat_natCast, reduceCtorEq, decide_true, decide_false, IntWalk.i64_in, IntWalk.u64_in, IntWalk.u8_in, h2], by simp (disch := omega) only [go_sem, ↓IntWalk.iteOmega, IntWalk.toNatUp, Nat.reduceEqDiff, Nat.reduceAdd, Nat.reduceMul, Nat.reduceSub, Nat.reduceLT, Nat.reduceLeDiff, Int.reduceToNat, Int.reduceLT, Int.reduceLE, Int.reduceEq, Int.reduceAdd, Int.reduceSub, Int.reduceMul, Int.toNat_natCast, reduceCtorEq, decide_true, decide_false, IntWalk.i64_in, IntWalk.u64_in, IntWalk.u8_in, h6], by simp (disch := omega) only [go_sem, ↓IntWalk.iteOmega, IntWalk.toNatUp, Nat.reduceEqDiff, Nat.reduceAdd, Nat.reduceMul, Nat.reduceSub, Nat.reduceLT, Nat.reduceLeDiff, Int.reduceToNat, Int.reduceLT, Int.reduceLE, Int.reduceEq, Int.reduceAdd, Int.reduceSub, Int.reduceMul, Int.toNat_natCast, reduceCtorEq, decide_true, decide_false, IntWalk.i64_in, IntWalk.u64_in, IntWalk.u8_in, h7], by simp (disch := omega) only [go_sem, ↓IntWalk.iteOmega, IntWalk.toNatUp, Nat.reduceEqDiff, Nat.reduceAdd, Nat.reduceMul, Nat.reduceSub, Nat.reduceLT, Nat.reduceLeDiff, Int.reduceToNat, Int.reduceLT, Int.reduceLE, Int.reduceEq, Int.reduceAdd, Int.reduceSub, Int.reduceMul, Int.toNat_natCast, reduceCtorEq, decide_true, decide_false, IntWalk.i64_in, IntWalk.u64_in, IntWalk.u8_in, h8], by simp (disch := omega) only [go_sem, ↓IntWalk.iteOmega, IntWalk.toNatUp, Nat.reduceEqDiff, Nat.reduceAdd, Nat.reduceMul, Nat.reduceSub, Nat.reduceLT, Nat.reduceLeDiff, Int.reduceToNat, Int.reduceLT, Int.reduceLE, Int.reduceEq, Int.reduceAdd, Int.reduceSub, Int.reduceMul, Int.toNat_natCast, reduceCtorEq, decide_true, decide_false, IntWalk.i64_in, IntWalk.u64_in, IntWalk.u8_in, h9], by simp (disch := omega) only [go_sem, ↓IntWalk.iteOmega, IntWalk.toNatUp, Nat.reduceEqDiff, Nat.reduceAdd, Nat.reduceMul, Nat.reduceSub, Nat.reduceLT, Nat.reduceLeDiff, Int.reduceToNat, Int.reduceLT, Int.reduceLE, Int.reduceEq, Int.reduceAdd, Int.reduceSub, Int.reduceMul, Int.toNat_natCast, reduceCtorEq, decide_true, decide_false, IntWalk.i64_in, IntWalk.u64_in, IntWalk.u8_in], by simp (disch := omega) only [go_sem, ↓IntWalk.iteOmega, IntWalk.toNatUp, Nat.reduceEqDiff, Nat.reduceAdd, Nat.reduceMul, Nat.reduceSub, Nat.reduceLT, Nat.reduceLeDiff, Int.reduceToNat, Int.reduceLT, Int.reduceLE, Int.reduceEq, Int.reduceAdd, Int.reduceSub, Int.reduceMul, Int.toNat_natCast, reduceCtorEq, decide_true, decide_false, IntWalk.i64_in, IntWalk.u64_in, IntWalk.u8_in], by rw [row7_zero]; exact upd_same _ _ _, fun i' j' h => by simp (disch := omega) only [upd_fst], by omega⟩ ?_
    clear h1 h2 h6 h7 h8 h9
    rintro m' a o' nx' ⟨j, hj, rfl, hnx', h1, h2, h6, h7, h8, h9, h10, h11, ho10, hkp, hnx2⟩
    have ho7' := (hkp (nx0 + 1) 7 (by omega)).trans ho7
    have ho6' := (hkp nx0 6 (by omega)).trans ho6
    by_cases hj5 : j < 5
    · have hset := row7_set n ns acc i hj5
      have hlen := row7_len n ns acc i j
      have hsp : ∀ x, splice (cI (row7 n ns acc i j)) j [.int .i64 x] = cI ((row7 n ns acc i j).set j x) := fun x => cI_set _ _ _ (by omega)
      obtain ⟨row, hrow⟩ : ∃ row, row = row7 n ns acc i j := ⟨_, rfl⟩
      rw [← hrow] at ho10 hset hlen hsp
      by_cases hk : i * 5 + j < ns.length
      · have hg := cI_get (s := 1) hk
        have he : ent7 n ns acc (i * 5 + j) = ns.getD (i * 5 + j) 0 % n := if_pos hk
        have hk' : (5 * (i : Int) + j) < ns.length := by omega
        have hkn : (5 * (i : Int) + (j : Int)).toNat = i * 5 + j := by omega
        rw [he] at hset
        have hXx := hX (ns.getD (i * 5 + j) 0) n (by omega) (by omega)
        simp (disch := omega) only [go_sem, ↓IntWalk.iteOmega, IntWalk.toNatUp, Nat.reduceEqDiff, Nat.reduceAdd, Nat.reduceMul, Nat.reduceSub, Nat.reduceLT, Nat.reduceLeDiff, Int.reduceToNat, Int.reduceLT, Int.reduceLE, Int.reduceEq, Int.reduceAdd, Int.reduceSub, Int.reduceMul, Int.toNat_natCast, reduceCtorEq, decide_true, decide_false, IntWalk.i64_in, IntWalk.u64_in, IntWalk.u8_in, h1, h2, h6, h7, h8, h9, h10, h11, ho10, hk', hkn, hg, hXx, hlen, hsp, hset]
        refine ⟨_, by omega, j + 1, by omega, rfl, by omega, rfl, rfl, fun i' j' h => ?_, by omega⟩
        have e : i' ≠ nx + 1 := by omega
        simp [e, hkp i' j' h]
      · have he : ent7 n ns acc (i * 5 + j) = IntKind.i64.wrap ((i : Int) + IntKind.i64.wrap ((j : Int) * acc)) % n := by
          rw [ent7, if_neg hk, show (i * 5 + j) / 5 = i by omega, show (i * 5 + j) % 5 = j by omega]
        have hk' : ¬ (5 * (i : Int) + j) < ns.length := by omega
        rw [he] at hset
        have hXx := hX (IntKind.i64.wrap ((i : Int) + IntKind.i64.wrap ((j : Int) * acc))) n (by omega) (by omega)
        simp (disch := omega) only [go_sem, ↓IntWalk.iteOmega, IntWalk.toNatUp, Nat.reduceEqDiff, Nat.reduceAdd, Nat.reduceMul, Nat.reduceSub, Nat.reduceLT, Nat.reduceLeDiff, Int.reduceToNat, Int.reduceLT, Int.reduceLE, Int.reduceEq, Int.reduceAdd, Int.reduceSub, Int.reduceMul, Int.toNat_natCast, reduceCtorEq, decide_true, decide_false, IntWalk.i64_in, IntWalk.u64_in, IntWalk.u8_in, h1, h2, h6, h7, h8, h9, h10, h11, ho10, hk', hXx, hlen, hsp, hset]
        refine ⟨_, by omega, j + 1, by omega, rfl, by omega, rfl, rfl, fun i' j' h => ?_, by omega⟩
        have e : i' ≠ nx + 1 := by omega
        simp [e, hkp i' j' h]
    · have hj' : j = 5 := by omega
      subst hj'
      have hns := next7_succ n ns acc i
      have hac := accs7_succ acc i
      have hl5 := row7_len n ns acc i 5
      have hrow5 : (cI (row7 n ns acc i 5)).length = 5 := by rw [cI_length, hl5]
      have hXx := hX (acc.fdiv (2 ^ min i 64)) 2 (by omega) (by omega)
      have htk5 : (cI (row7 n ns acc i 5)).take 5 = cI (row7 n ns acc i 5) := take_len hrow5
      have htN : (cI (next7 n ns acc i)).take (i * 5) = cI (next7 n ns acc i) := take_len (by rw [cI_length, next7_len])
      have htA : (cB (accs7 acc i)).take i = cB (accs7 acc i) := take_len (by rw [cB_length, accs7_len])
      have hlN := next7_len n ns acc i
      have hlA := accs7_len acc i
      have hNs : cI (next7 n ns acc (i + 1)) = cI (next7 n ns acc i) ++ cI (row7 n ns acc i 5) := by rw [hns, cI_app]
      have hAs : cB (accs7 acc (i + 1)) = cB (accs7 acc i) ++ [.bool (decide (acc.fdiv (2 ^ min i 64) % 2 = 1))] := by rw [hac, cB_app]; rfl
      have hNl : (cI (next7 n ns acc (i + 1))).length = (i + 1) * 5 := by rw [cI_length, next7_len]
      have hAl : (cB (accs7 acc (i + 1))).length = (i + 1) * 1 := by rw [cB_length, accs7_len]; omega
      rcases hHN with ⟨rfl, e2, e3⟩ | ⟨i1, g1, rfl, hi1, hrowN, hlenN⟩
      · rcases hHA with ⟨rfl, f2, f3⟩ | ⟨i2, g2, rfl, hi2, hrowA, hlenA⟩
        · simp (disch := omega) only [go_sem, ↓IntWalk.iteOmega, IntWalk.toNatUp, Nat.reduceEqDiff, Nat.reduceAdd, Nat.reduceMul, Nat.reduceSub, Nat.reduceLT, Nat.reduceLeDiff, Int.reduceToNat, Int.reduceLT, Int.reduceLE, Int.reduceEq, Int.reduceAdd, Int.reduceSub, Int.reduceMul, Int.toNat_natCast, reduceCtorEq, decide_true, decide_false, IntWalk.i64_in, IntWalk.u64_in, IntWalk.u8_in, h1, h2, h6, h7, h8, h9, h10, h11, ho10, ho7', ho6', hrow5, htk5, hXx, hlN, hlA, nz7]
          have e0 : i = 0 := e2
          refine ⟨_, by omega, i + 1, _, _, by omega, rfl, by omega, rfl, ⟨by omega, HS.of1 (by omega) (by omega) (by rw [hNs, e3]; simp [upd_app]) hNl, HS.of1 (by omega) (by omega) (by rw [hAs, f3]; simp [upd_app]) hAl, fun i' j' h => ?_, fun i' g k h => ?_, fun i' g k h => ?_⟩, rfl⟩
          · simp (disch := omega) only [upd_fst]
            rw [hkp i' j' (by omega), hkeep i' j' h]
          · injection h with h1 h2; injection h1 with h1 h2; omega
          · injection h with h1 h2; injection h1 with h1 h2; omega
        · have hrowA' := (hkp i2 65 (by omega)).trans hrowA
          simp (disch := omega) only [go_sem, ↓IntWalk.iteOmega, IntWalk.toNatUp, Nat.reduceEqDiff, Nat.reduceAdd, Nat.reduceMul, Nat.reduceSub, Nat.reduceLT, Nat.reduceLeDiff, Int.reduceToNat, Int.reduceLT, Int.reduceLE, Int.reduceEq, Int.reduceAdd, Int.reduceSub, Int.reduceMul, Int.toNat_natCast, reduceCtorEq, decide_true, decide_false, IntWalk.i64_in, IntWalk.u64_in, IntWalk.u8_in, h1, h2, h6, h7, h8, h9, h10, h11, ho10, ho7', ho6', hrow5, htk5, hXx, hlN, hlA, nz7, hrowA', htA]
          have hp2 := hla _ _ _ rfl
          have e0 : i = 0 := e2
          refine ⟨_, by omega, i + 1, _, _, by omega, rfl, by omega, rfl, ⟨by omega, HS.of1 (by omega) (by omega) (by rw [hNs, e3]; simp [upd_app]) hNl, HS.of (by omega) (by rw [hAs]; simp [upd_app]) hAl, fun i' j' h => ?_, fun i' g k h => ?_, fun i' g k h => ?_⟩, rfl⟩
          · simp (disch := omega) only [upd_fst]
            rw [hkp i' j' (by omega), hkeep i' j' h]
          · injection h with h1 h2; injection h1 with h1 h2; omega
          · injection h with h1 h2; injection h1 with h1 h2; omega
      · rcases hHA with ⟨rfl, f2, f3⟩ | ⟨i2, g2, rfl, hi2, hrowA, hlenA⟩
        · have hrowN' := (hkp i1 54 (by omega)).trans hrowN
          simp (disch := omega) only [go_sem, ↓IntWalk.iteOmega, IntWalk.toNatUp, Nat.reduceEqDiff, Nat.reduceAdd, Nat.reduceMul, Nat.reduceSub, Nat.reduceLT, Nat.reduceLeDiff, Int.reduceToNat, Int.reduceLT, Int.reduceLE, Int.reduceEq, Int.reduceAdd, Int.reduceSub, Int.reduceMul, Int.toNat_natCast, reduceCtorEq, decide_true, decide_false, IntWalk.i64_in, IntWalk.u64_in, IntWalk.u8_in, h1, h2, h6, h7, h8, h9, h10, h11, ho10, ho7', ho6', hrow5, htk5, hXx, hlN, hlA, nz7, hrowN', htN]
          have hp1 := hln _ _ _ rfl
          have e0 : i = 0 := f2
          refine ⟨_, by omega, i + 1, _, _, by omega, rfl, by omega, rfl, ⟨by omega, HS.of (by omega) (by rw [hNs]; simp [upd_app]) hNl, HS.of1 (by omega) (by omega) (by rw [hAs, f3]; simp [upd_app]) hAl, fun i' j' h => ?_, fun i' g k h => ?_, fun i' g k h => ?_⟩, rfl⟩
          · simp (disch := omega) only [upd_fst]
            rw [hkp i' j' (by omega), hkeep i' j' h]
          · injection h with h1 h2; injection h1 with h1 h2; omega
          · injection h with h1 h2; injection h1 with h1 h2; omega
        · have hrowA' := (hkp i2 65 (by omega)).trans hrowA
          have hrowN' := (hkp i1 54 (by omega)).trans hrowN
          simp (disch := omega) only [go_sem, ↓IntWalk.iteOmega, IntWalk.toNatUp, Nat.reduceEqDiff, Nat.reduceAdd, Nat.reduceMul, Nat.reduceSub, Nat.reduceLT, Nat.reduceLeDiff, Int.reduceToNat, Int.reduceLT, Int.reduceLE, Int.reduceEq, Int.reduceAdd, Int.reduceSub, Int.reduceMul, Int.toNat_natCast, reduceCtorEq, decide_true, decide_false, IntWalk.i64_in, IntWalk.u64_in, IntWalk.u8_in, h1, h2, h6, h7, h8, h9, h10, h11, ho10, ho7', ho6', hrow5, htk5, hXx, hlN, hlA, nz7, hrowN', hrowA', htN, htA]
          have hp1 := hln _ _ _ rfl
          have hp2 := hla _ _ _ rfl
          refine ⟨_, by omega, i + 1, _, _, by omega, rfl, by omega, rfl, ⟨by omega, HS.of (by omega) (by rw [hNs]; simp [upd_app]) hNl, HS.of (by omega) (by rw [hAs]; simp [upd_app]) hAl, fun i' j' h => ?_, fun i' g k h => ?_, fun i' g k h => ?_⟩, rfl⟩
          · simp (disch := omega) only [upd_fst]
            rw [hkp i' j' (by omega), hkeep i' j' h]
          · injection h with h1 h2; injection h1 with h1 h2; omega
          · injection h with h1 h2; injection h1 with h1 h2; omega
  · have hie : i = n := by omega
    subst hie
    simp (disch := omega) only [go_sem, ↓IntWalk.iteOmega, IntWalk.toNatUp, Nat.reduceEqDiff, Nat.reduceAdd, Nat.reduceMul, Nat.reduceSub, Nat.reduceLT, Nat.reduceLeDiff, Int.reduceToNat, Int.reduceLT, Int.reduceLE, Int.reduceEq, Int.reduceAdd, Int.reduceSub, Int.reduceMul, Int.toNat_natCast, reduceCtorEq, decide_true, decide_false, IntWalk.i64_in, IntWalk.u64_in, IntWalk.u8_in, h1, h2, h6, h7, h8, h9, ho7, ho6, hokN, hokA]
    refine ⟨_, _, ⟨by omega, hHN.keep (fun i hi => by simp [upd_app]) (by omega), hHA.keep (fun i hi => by simp [upd_app]) (by omega), fun i' j' h => ?_, hln, hla⟩, rfl⟩
    simp (disch := omega) only [upd_fst]
    exact hkeep i' j' h
end Go.Proofs.YtpmjpogcaglphaaDoor.A
/- The document's parting: alike, finer, parted. -/
namespace Go.Proofs.YtpmjpogcaglphaaDoor.A
open Go
set_option maxRecDepth 20000
def nL (l : List Nat) : List Int := l.map fun k : Nat => (k : Int)
theorem nL_len (l) : (nL l).length = l.length := by simp [nL]
theorem nL_app (x y) : nL (x ++ y) = nL x ++ nL y := by simp [nL]
theorem nL_get (l : List Nat) (i : Nat) : (nL l).getD i 0 = (l.getD i 0 : Int) := by
  simp only [nL, List.getD, List.getElem?_map]
  cases l[i]? <;> rfl
theorem nL_inj {x y : List Nat} (h : nL x = nL y) : x = y := List.map_inj_right (fun a b h => by omega) |>.1 h
theorem nL_at {l : List Nat} {i s : Nat} (h : i < l.length) : take1 false s ((cI (nL l)).drop i) = some (.int .i64 (l.getD i 0 : Nat)) := by
  rw [← nL_get]
  exact cI_get (by rw [nL_len]; exact h)
theorem kind_eq {N : List Int} {c : List Nat} {s t : Nat} (h0 : c.getD s 0 = c.getD t 0) (h : ∀ m, m < 5 → c.getD (N.getD (s * 5 + m) 0).toNat 0 = c.getD (N.getD (t * 5 + m) 0).toNat 0) : kindM N c s = kindM N c t := by
  unfold kindM
  rw [h0]
  exact congrArg (_ :: ·) (List.map_congr_left fun m hm => h m (List.mem_range.1 hm))
theorem lookAl (X) : lookedAt (EX md0 X) (fun _ => none) 4 Tryd.f85 = true := by kernel_rfl
theorem alike_ok {n : Nat} {N : List Int} {A : List Bool} (hw : WfD n N A) {c : List Nat} (hc : c.length = n) {p q : Nat} (hp : p < n) (hq : q < n) : Ok Tryd.prog 85 [dfaV n N A, slI (nL c), .int .i64 p, .int .i64 q] (.bool (decide (kindM N c p = kindM N c q))) := by
  refine ok_of_WP (E := EX md0 (fun _ _ => none)) (cr := noR) (tab_nil _) (noR_ok _) mixed (k := 7) Tryd.func85 (lookAl _) rfl ?_
  have hn := hw.sz
  have hN := hw.l
  have h1 := nL_at (l := c) (i := p) (s := 1) (by omega)
  have h2 := nL_at (l := c) (i := q) (s := 1) (by omega)
  have hcl := nL_len c
  simp only [Tryd.f85, Option.getD_some]
  by_cases h0 : c.getD p 0 = c.getD q 0
  · have h0' : ((c.getD p 0 : Nat) : Int) = ((c.getD q 0 : Nat) : Int) := by rw [h0]
    obtain ⟨u, hu⟩ : ∃ u : Int, u = ((c.getD p 0 : Nat) : Int) := ⟨_, rfl⟩
    rw [← hu] at h1
    rw [← h0', ← hu] at h2
    simp (disch := omega) only [go_sem, ↓IntWalk.iteOmega, IntWalk.toNatUp, Nat.reduceEqDiff, Nat.reduceAdd, Nat.reduceMul, Nat.reduceSub, Nat.reduceLT, Nat.reduceLeDiff, Int.reduceToNat, Int.reduceLT, Int.reduceLE, Int.reduceEq, Int.reduceAdd, Int.reduceSub, Int.reduceMul, Int.toNat_natCast, reduceCtorEq, decide_true, decide_false, IntWalk.i64_in, IntWalk.u64_in, IntWalk.u8_in, h1, h2]
    refine WP_loop (fun m a o nx => ∃ j : Nat, j ≤ 5 ∧ m = 5 - j ∧ (∀ k, k < j → c.getD (N.getD (p * 5 + k) 0).toNat 0 = c.getD (N.getD (q * 5 + k) 0).toNat 0) ∧ a 1 = slI (nL c) ∧ a 2 = .int .i64 p ∧ a 3 = .int .i64 q ∧ a 4 = .ptr (0, 4) (0, 4) 0 ∧ a 9 = .int .i64 j ∧ o (0, 4) = some (.row ⟨27, 1, (0, 4), false, true, [.sl n (cI N), slB A]⟩)) 5 (by omega) ⟨0, by omega, by omega, fun k hk => by omega, by simp (disch := omega) only [go_sem, ↓IntWalk.iteOmega, IntWalk.toNatUp, Nat.reduceEqDiff, Nat.reduceAdd, Nat.reduceMul, Nat.reduceSub, Nat.reduceLT, Nat.reduceLeDiff, Int.reduceToNat, Int.reduceLT, Int.reduceLE, Int.reduceEq, Int.reduceAdd, Int.reduceSub, Int.reduceMul, Int.toNat_natCast, reduceCtorEq, decide_true, decide_false, IntWalk.i64_in, IntWalk.u64_in, IntWalk.u8_in], by simp (disch := omega) only [go_sem, ↓IntWalk.iteOmega, IntWalk.toNatUp, Nat.reduceEqDiff, Nat.reduceAdd, Nat.reduceMul, Nat.reduceSub, Nat.reduceLT, Nat.reduceLeDiff, Int.reduceToNat, Int.reduceLT, Int.reduceLE, Int.reduceEq, Int.reduceAdd, Int.reduceSub, Int.reduceMul, Int.toNat_natCast, reduceCtorEq, decide_true, decide_false, IntWalk.i64_in, IntWalk.u64_in, IntWalk.u8_in], by simp (disch := omega) only [go_sem, ↓IntWalk.iteOmega, IntWalk.toNatUp, Nat.reduceEqDiff, Nat.reduceAdd, Nat.reduceMul, Nat.reduceSub, Nat.reduceLT, Nat.reduceLeDiff, Int.reduceToNat, Int.reduceLT, Int.reduceLE, Int.reduceEq, Int.reduceAdd, Int.reduceSub, Int.reduceMul, Int.toNat_natCast, reduceCtorEq, decide_true, decide_false, IntWalk.i64_in, IntWalk.u64_in, IntWalk.u8_in], by simp (disch := omega) only [go_sem, ↓IntWalk.iteOmega, IntWalk.toNatUp, Nat.reduceEqDiff, Nat.reduceAdd, Nat.reduceMul, Nat.reduceSub, Nat.reduceLT, Nat.reduceLeDiff, Int.reduceToNat, Int.reduceLT, Int.reduceLE, Int.reduceEq, Int.reduceAdd, Int.reduceSub, Int.reduceMul, Int.toNat_natCast, reduceCtorEq, decide_true, decide_false, IntWalk.i64_in, IntWalk.u64_in, IntWalk.u8_in], by simp (disch := omega) only [go_sem, ↓IntWalk.iteOmega, IntWalk.toNatUp, Nat.reduceEqDiff, Nat.reduceAdd, Nat.reduceMul, Nat.reduceSub, Nat.reduceLT, Nat.reduceLeDiff, Int.reduceToNat, Int.reduceLT, Int.reduceLE, Int.reduceEq, Int.reduceAdd, Int.reduceSub, Int.reduceMul, Int.toNat_natCast, reduceCtorEq, decide_true, decide_false, IntWalk.i64_in, IntWalk.u64_in, IntWalk.u8_in], by simp [upd_app]⟩ ?_
    rintro m a o nx ⟨j, hj, rfl, hall, ha1, ha2, ha3, ha4, ha9, o4⟩
    by_cases hj5 : j < 5
    · have g1 : take1 false 1 (((cI N).drop (p * 5)).drop j) = some (.int .i64 (N.getD (p * 5 + j) 0)) := by
        rw [List.drop_drop]; exact cI_get (by omega)
      have g2 : take1 false 1 (((cI N).drop (q * 5)).drop j) = some (.int .i64 (N.getD (q * 5 + j) 0)) := by
        rw [List.drop_drop]; exact cI_get (by omega)
      have e1 := hw.get (k := p * 5 + j) (by omega)
      have e2 := hw.get (k := q * 5 + j) (by omega)
      have hcs := fun h => hall j h
      have hnew : c.getD (N.getD (p * 5 + j) 0).toNat 0 = c.getD (N.getD (q * 5 + j) 0).toNat 0 → ∀ k, k < j + 1 → c.getD (N.getD (p * 5 + k) 0).toNat 0 = c.getD (N.getD (q * 5 + k) 0).toNat 0 := fun h k hk => by
        by_cases hkj : k = j
        · rw [hkj]; exact h
        · exact hall k (by omega)
      have hno : ¬ c.getD (N.getD (p * 5 + j) 0).toNat 0 = c.getD (N.getD (q * 5 + j) 0).toNat 0 → ¬ kindM N c p = kindM N c q := fun h e => h (kind_next e hj5)
      obtain ⟨x, hx⟩ : ∃ x, x = N.getD (p * 5 + j) 0 := ⟨_, rfl⟩
      obtain ⟨y, hy⟩ : ∃ y, y = N.getD (q * 5 + j) 0 := ⟨_, rfl⟩
      rw [← hx] at g1 e1
      rw [← hy] at g2 e2
      rw [← hx, ← hy] at hnew hno
      have c1 := nL_at (l := c) (i := x.toNat) (s := 1) (by omega)
      have c2 := nL_at (l := c) (i := y.toNat) (s := 1) (by omega)
      by_cases hxy : c.getD x.toNat 0 = c.getD y.toNat 0
      · have hnew := hnew hxy
        rw [← hxy] at c2
        simp (disch := omega) only [go_sem, ↓IntWalk.iteOmega, IntWalk.toNatUp, Nat.reduceEqDiff, Nat.reduceAdd, Nat.reduceMul, Nat.reduceSub, Nat.reduceLT, Nat.reduceLeDiff, Int.reduceToNat, Int.reduceLT, Int.reduceLE, Int.reduceEq, Int.reduceAdd, Int.reduceSub, Int.reduceMul, Int.toNat_natCast, reduceCtorEq, decide_true, decide_false, IntWalk.i64_in, IntWalk.u64_in, IntWalk.u8_in, ha1, ha2, ha3, ha4, ha9, o4, g1, g2, c1, c2]
        exact ⟨_, by omega, j + 1, by omega, rfl, hnew, rfl⟩
      · rw [decide_eq_false (hno hxy)]
        have hxy' : ¬ ((c.getD x.toNat 0 : Nat) : Int) = ((c.getD y.toNat 0 : Nat) : Int) := by omega
        simp (disch := omega) only [go_sem, ↓IntWalk.iteOmega, IntWalk.toNatUp, Nat.reduceEqDiff, Nat.reduceAdd, Nat.reduceMul, Nat.reduceSub, Nat.reduceLT, Nat.reduceLeDiff, Int.reduceToNat, Int.reduceLT, Int.reduceLE, Int.reduceEq, Int.reduceAdd, Int.reduceSub, Int.reduceMul, Int.toNat_natCast, reduceCtorEq, decide_true, decide_false, IntWalk.i64_in, IntWalk.u64_in, IntWalk.u8_in, ha1, ha2, ha3, ha4, ha9, o4, g1, g2, c1, c2, hxy']
    · rw [decide_eq_true (kind_eq h0 (fun k hk => hall k (by omega)))]
      simp (disch := omega) only [go_sem, ↓IntWalk.iteOmega, IntWalk.toNatUp, Nat.reduceEqDiff, Nat.reduceAdd, Nat.reduceMul, Nat.reduceSub, Nat.reduceLT, Nat.reduceLeDiff, Int.reduceToNat, Int.reduceLT, Int.reduceLE, Int.reduceEq, Int.reduceAdd, Int.reduceSub, Int.reduceMul, Int.toNat_natCast, reduceCtorEq, decide_true, decide_false, IntWalk.i64_in, IntWalk.u64_in, IntWalk.u8_in, ha1, ha2, ha3, ha4, ha9, o4]
  · rw [decide_eq_false (fun e => h0 (kind_head e))]
    have h0' : ¬ ((c.getD p 0 : Nat) : Int) = ((c.getD q 0 : Nat) : Int) := by omega
    simp (disch := omega) only [go_sem, ↓IntWalk.iteOmega, IntWalk.toNatUp, Nat.reduceEqDiff, Nat.reduceAdd, Nat.reduceMul, Nat.reduceSub, Nat.reduceLT, Nat.reduceLeDiff, Int.reduceToNat, Int.reduceLT, Int.reduceLE, Int.reduceEq, Int.reduceAdd, Int.reduceSub, Int.reduceMul, Int.toNat_natCast, reduceCtorEq, decide_true, decide_false, IntWalk.i64_in, IntWalk.u64_in, IntWalk.u8_in, h1, h2, h0']
def RAl (args : List AV) (r : AV) : Prop := ∃ (n : Nat) (N : List Int) (A : List Bool) (c : List Nat) (p q : Nat), WfD n N A ∧ c.length = n ∧ p < n ∧ q < n ∧ args = [dfaV n N A, slI (nL c), .int .i64 p, .int .i64 q] ∧ r = .bool (decide (kindM N c p = kindM N c q))
theorem RAl_fn : Fun1 RAl := by
  rintro args r r' ⟨n, N, A, c, p, q, _, _, _, _, rfl, rfl⟩ ⟨n', N', A', c', p', q', _, _, _, _, h, rfl⟩
  simp only [List.cons.injEq, AV.int.injEq, true_and, and_true] at h
  obtain ⟨h1, h2, h3, h4⟩ := h
  obtain ⟨_, h1, _⟩ := dfaV_inj h1
  have h2 := nL_inj (slI_inj h2)
  have h3 : p = p' := by omega
  have h4 : q = q' := by omega
  rw [h1, h2, h3, h4]
theorem RAl_ok (args r) (h : RAl args r) : Ok Tryd.prog 85 args r := by obtain ⟨n, N, A, c, p, q, h1, h2, h3, h4, rfl, rfl⟩ := h; exact alike_ok h1 h2 h3 h4
noncomputable def XAl : FuncId → List AV → Option AV := tabLook [(85, tRel RAl)]
theorem XAl_ok : CPSound Tryd.prog XAl := tab_cons (tab_nil _) (tRel_ok RAl_ok)
theorem XAl_eq {n : Nat} {N : List Int} {A : List Bool} (hw : WfD n N A) {c : List Nat} (hc : c.length = n) {p q : Nat} (hp : p < n) (hq : q < n) : XAl 85 [.agg [.sl n (cI N), slB A], slI (nL c), .int .i64 p, .int .i64 q] = some (.bool (decide (kindM N c p = kindM N c q))) := tRel_eq (R := RAl) RAl_fn ⟨_, _, _, _, _, _, hw, hc, hp, hq, rfl, rfl⟩
theorem lookFn (X) : lookedAt (EX md0 X) (fun _ => none) 2 Tryd.f63 = true := by kernel_rfl
theorem fin_some {N : List Int} {c F x : List Nat} {i k : Nat} (hF : (finM N c i).1 = F) (hx : (finM N c i).2 = x) (hk : k < F.length) (he : kindM N c (F.getD k 0) = kindM N c i) (hn : ∀ q, q < k → ¬ kindM N c (F.getD q 0) = kindM N c i) : finM N c (i + 1) = (F, x ++ [k]) := by
  have : F.findIdx? (fun f => kindM N c f == kindM N c i) = some k := by
    rw [List.findIdx?_eq_some_iff_getElem]
    refine ⟨hk, by simpa [List.getD, hk] using he, fun q hq => ?_⟩
    have := hn q hq
    simpa [List.getD, show q < F.length by omega] using this
  rw [finM, hF, hx, this]
theorem fin_none {N : List Int} {c F x : List Nat} {i : Nat} (hF : (finM N c i).1 = F) (hx : (finM N c i).2 = x) (hn : ∀ q, q < F.length → ¬ kindM N c (F.getD q 0) = kindM N c i) : finM N c (i + 1) = (F ++ [i], x ++ [F.length]) := by
  have : F.findIdx? (fun f => kindM N c f == kindM N c i) = none := by
    rw [List.findIdx?_eq_none_iff]
    intro f hf
    obtain ⟨q, hq, rfl⟩ := List.getElem_of_mem hf
    have := hn q hq
    simpa [List.getD, hq] using this
  rw [finM, hF, hx, this]
theorem set_row (x : List Nat) (n i k : Nat) (hx : x.length = i) (hi : i < n) : splice (cI (nL x ++ List.replicate (n - i) 0)) i [.int .i64 (k : Int)] = cI (nL (x ++ [k]) ++ List.replicate (n - (i + 1)) 0) := by
  rw [cI_set _ _ _ (by rw [List.length_append, nL_len, List.length_replicate]; omega), List.set_append, if_neg (by rw [nL_len]; omega), nL_len, hx, Nat.sub_self]
  obtain ⟨d, hd⟩ : ∃ d, n - i = d + 1 := ⟨n - i - 1, by omega⟩
  rw [hd, show n - (i + 1) = d by omega, List.replicate_succ]
  simp [nL]
theorem rfiner_ok {n : Nat} {N : List Int} {A : List Bool} (hw : WfD n N A) {c : List Nat} (hc : c.length = n) : Ok Tryd.prog 63 [dfaV n N A, slI (nL c)] (.tup [slI (nL (finM N c n).2), .int .i64 ((finM N c n).1.length : Nat)]) := by
  refine ok_of_WP (E := EX md0 XAl) (cr := noR) XAl_ok (noR_ok _) mixed (k := 2003) Tryd.func63 (lookFn _) rfl ?_
  have hn := hw.sz
  have hN := hw.l
  have hcl := nL_len c
  have hal := fun p q hp hq => XAl_eq hw hc (p := p) (q := q) hp hq
  simp only [Tryd.f63, Option.getD_some]
  simp (disch := omega) only [go_sem, ↓IntWalk.iteOmega, IntWalk.toNatUp, Nat.reduceEqDiff, Nat.reduceAdd, Nat.reduceMul, Nat.reduceSub, Nat.reduceLT, Nat.reduceLeDiff, Int.reduceToNat, Int.reduceLT, Int.reduceLE, Int.reduceEq, Int.reduceAdd, Int.reduceSub, Int.reduceMul, Int.toNat_natCast, reduceCtorEq, decide_true, decide_false, IntWalk.i64_in, IntWalk.u64_in, IntWalk.u8_in, hcl, hc]
  refine WP_loop (fun m a o nx => ∃ (i : Nat) (F x : List Nat) (vF : AV), finM N c i = (F, x) ∧ x.length = i ∧ F.length ≤ i ∧ (∀ f ∈ F, f < n) ∧ i ≤ n ∧ m = n - i ∧ 2 ≤ nx ∧ a 1 = slI (nL c) ∧ a 2 = .ptr (0, 2) (0, 2) 0 ∧ a 6 = .ref (1, 12) (1, 12) 0 n ∧ a 7 = vF ∧ a 8 = .int .i64 i ∧ o (0, 2) = some (.row ⟨27, 1, (0, 2), false, true, [.sl n (cI N), slB A]⟩) ∧ o (1, 12) = some (.row ⟨3, 1, (1, 12), false, true, cI (nL x ++ List.replicate (n - i) 0)⟩) ∧ HS 3 1 43 o nx vF F.length (cI (nL F))) n (by omega)
    ⟨0, [], [], .nil, rfl, rfl, Nat.le_refl _, fun f hf => (by cases hf), by omega, by omega, by omega, by simp (disch := omega) only [go_sem, ↓IntWalk.iteOmega, IntWalk.toNatUp, Nat.reduceEqDiff, Nat.reduceAdd, Nat.reduceMul, Nat.reduceSub, Nat.reduceLT, Nat.reduceLeDiff, Int.reduceToNat, Int.reduceLT, Int.reduceLE, Int.reduceEq, Int.reduceAdd, Int.reduceSub, Int.reduceMul, Int.toNat_natCast, reduceCtorEq, decide_true, decide_false, IntWalk.i64_in, IntWalk.u64_in, IntWalk.u8_in, hc], by simp (disch := omega) only [go_sem, ↓IntWalk.iteOmega, IntWalk.toNatUp, Nat.reduceEqDiff, Nat.reduceAdd, Nat.reduceMul, Nat.reduceSub, Nat.reduceLT, Nat.reduceLeDiff, Int.reduceToNat, Int.reduceLT, Int.reduceLE, Int.reduceEq, Int.reduceAdd, Int.reduceSub, Int.reduceMul, Int.toNat_natCast, reduceCtorEq, decide_true, decide_false, IntWalk.i64_in, IntWalk.u64_in, IntWalk.u8_in], by simp (disch := omega) only [go_sem, ↓IntWalk.iteOmega, IntWalk.toNatUp, Nat.reduceEqDiff, Nat.reduceAdd, Nat.reduceMul, Nat.reduceSub, Nat.reduceLT, Nat.reduceLeDiff, Int.reduceToNat, Int.reduceLT, Int.reduceLE, Int.reduceEq, Int.reduceAdd, Int.reduceSub, Int.reduceMul, Int.toNat_natCast, reduceCtorEq, decide_true, decide_false, IntWalk.i64_in, IntWalk.u64_in, IntWalk.u8_in], by simp (disch := omega) only [go_sem, ↓IntWalk.iteOmega, IntWalk.toNatUp, Nat.reduceEqDiff, Nat.reduceAdd, Nat.reduceMul, Nat.reduceSub, Nat.reduceLT, Nat.reduceLeDiff, Int.reduceToNat, Int.reduceLT, Int.reduceLE, Int.reduceEq, Int.reduceAdd, Int.reduceSub, Int.reduceMul, Int.toNat_natCast, reduceCtorEq, decide_true, decide_false, IntWalk.i64_in, IntWalk.u64_in, IntWalk.u8_in], by simp (disch := omega) only [go_sem, ↓IntWalk.iteOmega, IntWalk.toNatUp, Nat.reduceEqDiff, Nat.reduceAdd, Nat.reduceMul, Nat.reduceSub, Nat.reduceLT, Nat.reduceLeDiff, Int.reduceToNat, Int.reduceLT, Int.reduceLE, Int.reduceEq, Int.reduceAdd, Int.reduceSub, Int.reduceMul, Int.toNat_natCast, reduceCtorEq, decide_true, decide_false, IntWalk.i64_in, IntWalk.u64_in, IntWalk.u8_in], by simp [upd_app], by simp [upd_app, rep_int, nL], HS.nil⟩ ?_
  rintro m a o nx ⟨i, F, x, vF, hf, hxl, hFl, hFn, hi, rfl, hnx, ha1, ha2, ha6, ha7, ha8, o2, o12, hF⟩
  have hfF : (finM N c i).1 = F := by rw [hf]
  have hfx : (finM N c i).2 = x := by rw [hf]
  by_cases hlt : i < n
  · simp (disch := omega) only [go_sem, ↓IntWalk.iteOmega, IntWalk.toNatUp, Nat.reduceEqDiff, Nat.reduceAdd, Nat.reduceMul, Nat.reduceSub, Nat.reduceLT, Nat.reduceLeDiff, Int.reduceToNat, Int.reduceLT, Int.reduceLE, Int.reduceEq, Int.reduceAdd, Int.reduceSub, Int.reduceMul, Int.toNat_natCast, reduceCtorEq, decide_true, decide_false, IntWalk.i64_in, IntWalk.u64_in, IntWalk.u8_in, ha1, ha2, ha6, ha7, ha8, o2, o12]
    have hset0 : splice (cI (nL x ++ List.replicate (n - i) 0)) i [.int .i64 0] = cI (nL (x ++ [0]) ++ List.replicate (n - (i + 1)) 0) := set_row x n i 0 hxl hlt
    have hset := fun k => set_row x n i k hxl hlt
    have hrl : (cI (nL x ++ List.replicate (n - i) 0)).length = n := by rw [cI_length, List.length_append, nL_len, List.length_replicate]; omega
    refine WP_loop (fun m' a o' nx' => ∃ k : Nat, k ≤ F.length ∧ m' = F.length - k ∧ nx ≤ nx' ∧ (∀ q, q < k → ¬ kindM N c (F.getD q 0) = kindM N c i) ∧ a 1 = slI (nL c) ∧ a 2 = .ptr (0, 2) (0, 2) 0 ∧ a 6 = .ref (1, 12) (1, 12) 0 n ∧ a 7 = vF ∧ a 8 = .int .i64 i ∧ a 9 = .int .i64 k ∧ o' = o) F.length (by omega) ⟨0, by omega, by omega, by omega, fun q hq => by omega, by simp (disch := omega) only [go_sem, ↓IntWalk.iteOmega, IntWalk.toNatUp, Nat.reduceEqDiff, Nat.reduceAdd, Nat.reduceMul, Nat.reduceSub, Nat.reduceLT, Nat.reduceLeDiff, Int.reduceToNat, Int.reduceLT, Int.reduceLE, Int.reduceEq, Int.reduceAdd, Int.reduceSub, Int.reduceMul, Int.toNat_natCast, reduceCtorEq, decide_true, decide_false, IntWalk.i64_in, IntWalk.u64_in, IntWalk.u8_in, ha1], by simp (disch := omega) only [go_sem, ↓IntWalk.iteOmega, IntWalk.toNatUp, Nat.reduceEqDiff, Nat.reduceAdd, Nat.reduceMul, Nat.reduceSub, Nat.reduceLT, Nat.reduceLeDiff, Int.reduceToNat, Int.reduceLT, Int.reduceLE, Int.reduceEq, Int.reduceAdd, Int.reduceSub, Int.reduceMul, Int.toNat_natCast, reduceCtorEq, decide_true, decide_false, IntWalk.i64_in, IntWalk.u64_in, IntWalk.u8_in, ha2], by simp (disch := omega) only [go_sem, ↓IntWalk.iteOmega, IntWalk.toNatUp, Nat.reduceEqDiff, Nat.reduceAdd, Nat.reduceMul, Nat.reduceSub, Nat.reduceLT, Nat.reduceLeDiff, Int.reduceToNat, Int.reduceLT, Int.reduceLE, Int.reduceEq, Int.reduceAdd, Int.reduceSub, Int.reduceMul, Int.toNat_natCast, reduceCtorEq, decide_true, decide_false, IntWalk.i64_in, IntWalk.u64_in, IntWalk.u8_in, ha6], by simp (disch := omega) only [go_sem, ↓IntWalk.iteOmega, IntWalk.toNatUp, Nat.reduceEqDiff, Nat.reduceAdd, Nat.reduceMul, Nat.reduceSub, Nat.reduceLT, Nat.reduceLeDiff, Int.reduceToNat, Int.reduceLT, Int.reduceLE, Int.reduceEq, Int.reduceAdd, Int.reduceSub, Int.reduceMul, Int.toNat_natCast, reduceCtorEq, decide_true, decide_false, IntWalk.i64_in, IntWalk.u64_in, IntWalk.u8_in, ha7], by simp (disch := omega) only [go_sem, ↓IntWalk.iteOmega, IntWalk.toNatUp, Nat.reduceEqDiff, Nat.reduceAdd, Nat.reduceMul, Nat.reduceSub, Nat.reduceLT, Nat.reduceLeDiff, Int.reduceToNat, Int.reduceLT, Int.reduceLE, Int.reduceEq, Int.reduceAdd, Int.reduceSub, Int.reduceMul, Int.toNat_natCast, reduceCtorEq, decide_true, decide_false, IntWalk.i64_in, IntWalk.u64_in, IntWalk.u8_in, ha8], by simp (disch := omega) only [go_sem, ↓IntWalk.iteOmega, IntWalk.toNatUp, Nat.reduceEqDiff, Nat.reduceAdd, Nat.reduceMul, Nat.reduceSub, Nat.reduceLT, Nat.reduceLeDiff, Int.reduceToNat, Int.reduceLT, Int.reduceLE, Int.reduceEq, Int.reduceAdd, Int.reduceSub, Int.reduceMul, Int.toNat_natCast, reduceCtorEq, decide_true, decide_false, IntWalk.i64_in, IntWalk.u64_in, IntWalk.u8_in], rfl⟩ ?_
    clear ha1 ha2 ha6 ha7 ha8
    rintro m' a o' nx' ⟨k, hk, rfl, hnx', hno, ha1, ha2, ha6, ha7, ha8, ha9, rfl⟩
    by_cases hkF : k < F.length
    · rcases hF with ⟨_, h0, _⟩ | ⟨i1, g, rfl, hi1, hro, hrl2⟩
      · omega
      have hat := nL_at (l := F) (i := k) (s := 1) hkF
      have hm : F.getD k 0 < n := hFn _ (by rw [List.getD_eq_getElem?_getD, List.getElem?_eq_getElem hkF]; exact List.getElem_mem ..)
      have hal := hal (F.getD k 0) i hm hlt
      by_cases he : kindM N c (F.getD k 0) = kindM N c i
      · have hfs := fin_some hfF hfx hkF he hno
        rw [decide_eq_true he] at hal
        generalize F.getD k 0 = f at *
        simp (disch := omega) only [go_sem, ↓IntWalk.iteOmega, IntWalk.toNatUp, Nat.reduceEqDiff, Nat.reduceAdd, Nat.reduceMul, Nat.reduceSub, Nat.reduceLT, Nat.reduceLeDiff, Int.reduceToNat, Int.reduceLT, Int.reduceLE, Int.reduceEq, Int.reduceAdd, Int.reduceSub, Int.reduceMul, Int.toNat_natCast, reduceCtorEq, decide_true, decide_false, IntWalk.i64_in, IntWalk.u64_in, IntWalk.u8_in, ha1, ha2, ha6, ha7, ha8, ha9, o2, o12, hro, hat, hal, hset, hrl]
        exact ⟨n - (i + 1), by omega, i + 1, F, x ++ [k], _, hfs, by simp [hxl], by omega, hFn, by omega, rfl, rfl, rfl, rfl, .inr ⟨i1, g, rfl, by omega, by simp [upd_app, hro], hrl2⟩⟩
      · rw [decide_eq_false he] at hal
        have hno' : ∀ q, q < k + 1 → ¬ kindM N c (F.getD q 0) = kindM N c i := fun q hq => by
          by_cases hqk : q = k
          · rw [hqk]; exact he
          · exact hno q (by omega)
        generalize F.getD k 0 = f at *
        simp (disch := omega) only [go_sem, ↓IntWalk.iteOmega, IntWalk.toNatUp, Nat.reduceEqDiff, Nat.reduceAdd, Nat.reduceMul, Nat.reduceSub, Nat.reduceLT, Nat.reduceLeDiff, Int.reduceToNat, Int.reduceLT, Int.reduceLE, Int.reduceEq, Int.reduceAdd, Int.reduceSub, Int.reduceMul, Int.toNat_natCast, reduceCtorEq, decide_true, decide_false, IntWalk.i64_in, IntWalk.u64_in, IntWalk.u8_in, ha1, ha2, ha6, ha7, ha8, ha9, o2, o12, hro, hat, hal, hset, hrl]
        exact ⟨_, by omega, k + 1, by omega, rfl, by omega, hno', rfl⟩
    · have hke : k = F.length := by omega
      have hfs := fin_none hfF hfx (fun q hq => hno q (by omega))
      have hFn' : ∀ f ∈ F ++ [i], f < n := fun f hf => by
        rcases List.mem_append.1 hf with hf | hf
        · exact hFn f hf
        · rw [List.mem_singleton.1 hf]; exact hlt
      subst hke
      rcases hF with ⟨rfl, h0, h1⟩ | ⟨i1, g, rfl, hi1, hro, hrl2⟩
      · have hF0 : F = [] := List.length_eq_zero_iff.1 h0
        subst hF0
        simp (disch := omega) only [go_sem, ↓IntWalk.iteOmega, IntWalk.toNatUp, Nat.reduceEqDiff, Nat.reduceAdd, Nat.reduceMul, Nat.reduceSub, Nat.reduceLT, Nat.reduceLeDiff, Int.reduceToNat, Int.reduceLT, Int.reduceLE, Int.reduceEq, Int.reduceAdd, Int.reduceSub, Int.reduceMul, Int.toNat_natCast, reduceCtorEq, decide_true, decide_false, IntWalk.i64_in, IntWalk.u64_in, IntWalk.u8_in, ha1, ha2, ha6, ha7, ha8, ha9, o2, o12, hset0, hrl, List.length_nil]
        refine ⟨n - (i + 1), by omega, i + 1, [i], x ++ [0], _, hfs, by simp [hxl], by simp, hFn', by omega, rfl, rfl, rfl, rfl, ?_⟩
        refine .inr ⟨_, _, rfl, by omega, ?_, rfl⟩
        simp [upd_app, nL, cI]
      · have hkl : (cI (nL F)).take F.length = cI (nL F) := take_len (by rw [cI_length, nL_len])
        simp (disch := omega) only [go_sem, ↓IntWalk.iteOmega, IntWalk.toNatUp, Nat.reduceEqDiff, Nat.reduceAdd, Nat.reduceMul, Nat.reduceSub, Nat.reduceLT, Nat.reduceLeDiff, Int.reduceToNat, Int.reduceLT, Int.reduceLE, Int.reduceEq, Int.reduceAdd, Int.reduceSub, Int.reduceMul, Int.toNat_natCast, reduceCtorEq, decide_true, decide_false, IntWalk.i64_in, IntWalk.u64_in, IntWalk.u8_in, ha1, ha2, ha6, ha7, ha8, ha9, o2, o12, hro, hset, hrl, hkl, nL_len]
        refine ⟨n - (i + 1), by omega, i + 1, F ++ [i], x ++ [F.length], _, hfs, by simp [hxl], by simp; omega, hFn', by omega, rfl, rfl, rfl, rfl, ?_⟩
        refine .inr ⟨i1, (nx' + 1 + 1, 43), by simp, by omega, ?_, by simp [cI_length, nL_len]⟩
        simp [upd_app, nL_app, cI_app]
        rfl
  · have hie : i = n := by omega
    subst hie
    have hv : (nL x).length = i := by rw [nL_len]; exact hxl
    have htk : (cI (nL x)).take i = cI (nL x) := take_len (by rw [cI_length]; exact hv)
    rw [Nat.sub_self, List.replicate_zero, List.append_nil] at o12
    have hlF : aLen Tryd.prog o 22 vF = some (.int .i64 (F.length : Nat)) := by
      rcases hF with ⟨rfl, h0, h1⟩ | ⟨i1, g, rfl, hi1, hro, hrl2⟩
      · rw [h0]; rfl
      · rfl
    rw [hf]
    simp (disch := omega) only [go_sem, ↓IntWalk.iteOmega, IntWalk.toNatUp, Nat.reduceEqDiff, Nat.reduceAdd, Nat.reduceMul, Nat.reduceSub, Nat.reduceLT, Nat.reduceLeDiff, Int.reduceToNat, Int.reduceLT, Int.reduceLE, Int.reduceEq, Int.reduceAdd, Int.reduceSub, Int.reduceMul, Int.toNat_natCast, reduceCtorEq, decide_true, decide_false, IntWalk.i64_in, IntWalk.u64_in, IntWalk.u8_in, ha1, ha2, ha6, ha7, ha8, o2, o12, hlF, hv, htk]
    rw [slI, hv]
end Go.Proofs.YtpmjpogcaglphaaDoor.A
/- The document's parting: parted. -/
namespace Go.Proofs.YtpmjpogcaglphaaDoor.A
open Go
set_option maxRecDepth 20000
theorem finM_len (N c i) : (finM N c i).2.length = i := (finM_at N c i).len
def RFin (args : List AV) (r : AV) : Prop := ∃ (n : Nat) (N : List Int) (A : List Bool) (c : List Nat), WfD n N A ∧ c.length = n ∧ args = [dfaV n N A, slI (nL c)] ∧ r = .tup [slI (nL (finM N c n).2), .int .i64 ((finM N c n).1.length : Nat)]
theorem RFin_fn : Fun1 RFin := by
  rintro args r r' ⟨n, N, A, c, _, _, rfl, rfl⟩ ⟨n', N', A', c', _, _, h, rfl⟩
  simp only [List.cons.injEq, and_true] at h
  obtain ⟨h1, h2⟩ := h
  obtain ⟨h0, h1, _⟩ := dfaV_inj h1
  have h2 := nL_inj (slI_inj h2)
  rw [h0, h1, h2]
theorem RFin_ok (args r) (h : RFin args r) : Ok Tryd.prog 63 args r := by obtain ⟨n, N, A, c, h1, h2, rfl, rfl⟩ := h; exact rfiner_ok h1 h2
noncomputable def XFin : FuncId → List AV → Option AV := tabLook [(63, tRel RFin)]
theorem XFin_ok : CPSound Tryd.prog XFin := tab_cons (tab_nil _) (tRel_ok RFin_ok)
theorem XFin_eq {n : Nat} {N : List Int} {A : List Bool} (hw : WfD n N A) {c : List Nat} (hc : c.length = n) : XFin 63 [.agg [.sl n (cI N), .sl n (cB A)], .sl n (cI (nL c))] = some (.tup [.sl n (cI (nL (finM N c n).2)), .int .i64 ((finM N c n).1.length : Nat)]) := by
  have := tRel_eq (R := RFin) RFin_fn ⟨n, N, A, c, hw, hc, rfl, rfl⟩
  rw [dfaV, slB, hw.a, slI, slI, nL_len, nL_len, hc, finM_len] at this
  exact this
theorem accM_snoc {A : List Bool} {i : Nat} (h : i < A.length) : accM (A.take (i + 1)) = accM (A.take i) ++ [if A.getD i false then 1 else 0] := by
  rw [take_succ_getD h false]; simp [accM]
theorem zero_row (x : List Nat) (n i : Nat) (hi : i < n) : cI (nL x ++ List.replicate (n - i) 0) = cI (nL (x ++ [0]) ++ List.replicate (n - (i + 1)) 0) := by
  obtain ⟨d, hd⟩ : ∃ d, n - i = d + 1 := ⟨n - i - 1, by omega⟩
  rw [hd, show n - (i + 1) = d by omega, List.replicate_succ]
  simp [nL]
theorem lookPt : lookedAt (EX md0 XFin) (fun _ => none) 1 Tryd.f42 = true := by kernel_rfl
theorem partF_step {N : List Int} {len r : Nat} {c : List Nat} {k : Nat} {x : List Nat} (h : partF N len r c k = some x) : ∃ r', r = r' + 1 ∧ (if (finM N c len).1.length = k then (finM N c len).2 = x else partF N len r' (finM N c len).2 (finM N c len).1.length = some x) := by
  cases r with
  | zero => cases h
  | succ r =>
    refine ⟨r, rfl, ?_⟩
    rw [partF] at h
    split at h
    · rename_i e; rw [if_pos e]; injection h
    · rename_i e; rw [if_neg e]; exact h
theorem parted_ok {n : Nat} {N : List Int} {A : List Bool} (hw : WfD n N A) : Ok Tryd.prog 42 [dfaV n N A] (slI (nL (clsOf N A))) := by
  refine ok_of_WP (E := EX md0 XFin) (cr := noR) XFin_ok (noR_ok _) mixed (k := 2005) Tryd.func42 lookPt rfl ?_
  have hn := hw.sz
  have hN := hw.l
  have hA := hw.a
  have hfin := fun c hc => XFin_eq hw (c := c) hc
  simp only [Tryd.f42, Option.getD_some]
  rw [dfaV, slB, hA]
  simp (disch := omega) only [go_sem, ↓IntWalk.iteOmega, IntWalk.toNatUp, Nat.reduceEqDiff, Nat.reduceAdd, Nat.reduceMul, Nat.reduceSub, Nat.reduceLT, Nat.reduceLeDiff, Int.reduceToNat, Int.reduceLT, Int.reduceLE, Int.reduceEq, Int.reduceAdd, Int.reduceSub, Int.reduceMul, Int.toNat_natCast, reduceCtorEq, decide_true, decide_false, IntWalk.i64_in, IntWalk.u64_in, IntWalk.u8_in]
  refine WP_loop (fun m a o nx => ∃ i : Nat, i ≤ n ∧ m = n - i ∧ 2 ≤ nx ∧ a 1 = .ptr (0, 1) (0, 1) 0 ∧ a 3 = .ref (1, 11) (1, 11) 0 n ∧ a 4 = .int .i64 i ∧ o (0, 1) = some (.row ⟨27, 1, (0, 1), false, true, [.sl n (cI N), .sl n (cB A)]⟩) ∧ o (1, 11) = some (.row ⟨3, 1, (1, 11), false, true, cI (nL (accM (A.take i)) ++ List.replicate (n - i) 0)⟩)) n (by omega)
    ⟨0, by omega, by omega, by omega, by simp (disch := omega) only [go_sem, ↓IntWalk.iteOmega, IntWalk.toNatUp, Nat.reduceEqDiff, Nat.reduceAdd, Nat.reduceMul, Nat.reduceSub, Nat.reduceLT, Nat.reduceLeDiff, Int.reduceToNat, Int.reduceLT, Int.reduceLE, Int.reduceEq, Int.reduceAdd, Int.reduceSub, Int.reduceMul, Int.toNat_natCast, reduceCtorEq, decide_true, decide_false, IntWalk.i64_in, IntWalk.u64_in, IntWalk.u8_in], by simp (disch := omega) only [go_sem, ↓IntWalk.iteOmega, IntWalk.toNatUp, Nat.reduceEqDiff, Nat.reduceAdd, Nat.reduceMul, Nat.reduceSub, Nat.reduceLT, Nat.reduceLeDiff, Int.reduceToNat, Int.reduceLT, Int.reduceLE, Int.reduceEq, Int.reduceAdd, Int.reduceSub, Int.reduceMul, Int.toNat_natCast, reduceCtorEq, decide_true, decide_false, IntWalk.i64_in, IntWalk.u64_in, IntWalk.u8_in], by simp (disch := omega) only [go_sem, ↓IntWalk.iteOmega, IntWalk.toNatUp, Nat.reduceEqDiff, Nat.reduceAdd, Nat.reduceMul, Nat.reduceSub, Nat.reduceLT, Nat.reduceLeDiff, Int.reduceToNat, Int.reduceLT, Int.reduceLE, Int.reduceEq, Int.reduceAdd, Int.reduceSub, Int.reduceMul, Int.toNat_natCast, reduceCtorEq, decide_true, decide_false, IntWalk.i64_in, IntWalk.u64_in, IntWalk.u8_in], by simp [upd_app], by simp [upd_app, rep_int, nL, accM]⟩ ?_
  rintro m a o nx ⟨i, hi, rfl, hnx, ha1, ha3, ha4, o1, o11⟩
  by_cases hlt : i < n
  · have hat := cB_get (l := A) (i := i) (s := 1) (by omega)
    have hsn := accM_snoc (A := A) (i := i) (by omega)
    have hxl : (accM (A.take i)).length = i := by simp [accM]; omega
    have hset1 : splice (cI (nL (accM (A.take i)) ++ List.replicate (n - i) 0)) i [.int .i64 1] = cI (nL (accM (A.take i) ++ [1]) ++ List.replicate (n - (i + 1)) 0) := set_row _ n i 1 hxl hlt
    have hzero := zero_row (accM (A.take i)) n i hlt
    have hrl : (cI (nL (accM (A.take i)) ++ List.replicate (n - i) 0)).length = n := by rw [cI_length, List.length_append, nL_len, List.length_replicate]; omega
    generalize A.getD i false = b at hat hsn
    cases b
    · rw [if_neg (by decide)] at hsn
      rw [← hsn] at hzero
      simp (disch := omega) only [go_sem, ↓IntWalk.iteOmega, IntWalk.toNatUp, Nat.reduceEqDiff, Nat.reduceAdd, Nat.reduceMul, Nat.reduceSub, Nat.reduceLT, Nat.reduceLeDiff, Int.reduceToNat, Int.reduceLT, Int.reduceLE, Int.reduceEq, Int.reduceAdd, Int.reduceSub, Int.reduceMul, Int.toNat_natCast, reduceCtorEq, decide_true, decide_false, IntWalk.i64_in, IntWalk.u64_in, IntWalk.u8_in, ha1, ha3, ha4, o1, o11, hat]
      exact ⟨_, by omega, i + 1, by omega, rfl, rfl, by rw [hzero]⟩
    · rw [if_pos rfl] at hsn
      rw [← hsn] at hset1
      simp (disch := omega) only [go_sem, ↓IntWalk.iteOmega, IntWalk.toNatUp, Nat.reduceEqDiff, Nat.reduceAdd, Nat.reduceMul, Nat.reduceSub, Nat.reduceLT, Nat.reduceLeDiff, Int.reduceToNat, Int.reduceLT, Int.reduceLE, Int.reduceEq, Int.reduceAdd, Int.reduceSub, Int.reduceMul, Int.toNat_natCast, reduceCtorEq, decide_true, decide_false, IntWalk.i64_in, IntWalk.u64_in, IntWalk.u8_in, ha1, ha3, ha4, o1, o11, hat, hset1, hrl]
      exact ⟨_, by omega, i + 1, by omega, rfl, rfl, rfl⟩
  · have hie : i = n := by omega
    subst hie
    rw [Nat.sub_self, List.replicate_zero, List.append_nil, List.take_of_length_le (by omega)] at o11
    simp (disch := omega) only [go_sem, ↓IntWalk.iteOmega, IntWalk.toNatUp, Nat.reduceEqDiff, Nat.reduceAdd, Nat.reduceMul, Nat.reduceSub, Nat.reduceLT, Nat.reduceLeDiff, Int.reduceToNat, Int.reduceLT, Int.reduceLE, Int.reduceEq, Int.reduceAdd, Int.reduceSub, Int.reduceMul, Int.toNat_natCast, reduceCtorEq, decide_true, decide_false, IntWalk.i64_in, IntWalk.u64_in, IntWalk.u8_in, ha1, ha3, ha4, o1, o11]
    have hcl : (accM A).length = i := by simp [accM]; omega
    have hcls := (cls_spec hw.okD).1
    rw [hA] at hcls
    generalize clsOf N A = X at *
    refine WP_loop (fun m a o nx => ∃ (r : Nat) (c : List Nat) (k : Nat), partF N i r c k = some X ∧ c.length = i ∧ m = r ∧ 2 ≤ nx ∧ (a 3 = .ref (1, 11) (1, 11) 0 i ∧ o (1, 11) = some (.row ⟨3, 1, (1, 11), false, true, cI (nL c)⟩) ∨ a 3 = .sl i (cI (nL c))) ∧ a 1 = .ptr (0, 1) (0, 1) 0 ∧ a 5 = .int .i64 k ∧ o (0, 1) = some (.row ⟨27, 1, (0, 1), false, true, [.sl i (cI N), .sl i (cB A)]⟩)) (i + 2) (by omega)
      ⟨i + 2, accM A, 0, hcls, hcl, rfl, by omega, .inl ⟨by simp (disch := omega) only [go_sem, ↓IntWalk.iteOmega, IntWalk.toNatUp, Nat.reduceEqDiff, Nat.reduceAdd, Nat.reduceMul, Nat.reduceSub, Nat.reduceLT, Nat.reduceLeDiff, Int.reduceToNat, Int.reduceLT, Int.reduceLE, Int.reduceEq, Int.reduceAdd, Int.reduceSub, Int.reduceMul, Int.toNat_natCast, reduceCtorEq, decide_true, decide_false, IntWalk.i64_in, IntWalk.u64_in, IntWalk.u8_in, ha3], by simp (disch := omega) only [go_sem, ↓IntWalk.iteOmega, IntWalk.toNatUp, Nat.reduceEqDiff, Nat.reduceAdd, Nat.reduceMul, Nat.reduceSub, Nat.reduceLT, Nat.reduceLeDiff, Int.reduceToNat, Int.reduceLT, Int.reduceLE, Int.reduceEq, Int.reduceAdd, Int.reduceSub, Int.reduceMul, Int.toNat_natCast, reduceCtorEq, decide_true, decide_false, IntWalk.i64_in, IntWalk.u64_in, IntWalk.u8_in, o11]⟩, by simp (disch := omega) only [go_sem, ↓IntWalk.iteOmega, IntWalk.toNatUp, Nat.reduceEqDiff, Nat.reduceAdd, Nat.reduceMul, Nat.reduceSub, Nat.reduceLT, Nat.reduceLeDiff, Int.reduceToNat, Int.reduceLT, Int.reduceLE, Int.reduceEq, Int.reduceAdd, Int.reduceSub, Int.reduceMul, Int.toNat_natCast, reduceCtorEq, decide_true, decide_false, IntWalk.i64_in, IntWalk.u64_in, IntWalk.u8_in, ha1], by simp (disch := omega) only [go_sem, ↓IntWalk.iteOmega, IntWalk.toNatUp, Nat.reduceEqDiff, Nat.reduceAdd, Nat.reduceMul, Nat.reduceSub, Nat.reduceLT, Nat.reduceLeDiff, Int.reduceToNat, Int.reduceLT, Int.reduceLE, Int.reduceEq, Int.reduceAdd, Int.reduceSub, Int.reduceMul, Int.toNat_natCast, reduceCtorEq, decide_true, decide_false, IntWalk.i64_in, IntWalk.u64_in, IntWalk.u8_in], by simp (disch := omega) only [go_sem, ↓IntWalk.iteOmega, IntWalk.toNatUp, Nat.reduceEqDiff, Nat.reduceAdd, Nat.reduceMul, Nat.reduceSub, Nat.reduceLT, Nat.reduceLeDiff, Int.reduceToNat, Int.reduceLT, Int.reduceLE, Int.reduceEq, Int.reduceAdd, Int.reduceSub, Int.reduceMul, Int.toNat_natCast, reduceCtorEq, decide_true, decide_false, IntWalk.i64_in, IntWalk.u64_in, IntWalk.u8_in, o1]⟩ ?_
    clear ha1 ha3 ha4 o1 o11 hcls hcl
    rintro m a o nx ⟨r, c, k, hp, hcl, rfl, hnx, hc3, ha1, ha5, o1⟩
    obtain ⟨r', rfl, hs⟩ := partF_step hp
    have hf := hfin c hcl
    have hl1 := finM_len N c i
    have hrl : (cI (nL c)).length = i := by rw [cI_length, nL_len, hcl]
    have htk : (cI (nL c)).take i = cI (nL c) := take_len hrl
    generalize finM N c i = FX at *
    obtain ⟨F, x⟩ := FX
    dsimp only at hs hf hl1
    by_cases he : F.length = k
    · rw [if_pos he] at hs
      subst hs
      have he' : ((F.length : Nat) : Int) = (k : Int) := by rw [he]
      rcases hc3 with ⟨ha3, o11⟩ | ha3
      · simp (disch := omega) only [go_sem, ↓IntWalk.iteOmega, IntWalk.toNatUp, Nat.reduceEqDiff, Nat.reduceAdd, Nat.reduceMul, Nat.reduceSub, Nat.reduceLT, Nat.reduceLeDiff, Int.reduceToNat, Int.reduceLT, Int.reduceLE, Int.reduceEq, Int.reduceAdd, Int.reduceSub, Int.reduceMul, Int.toNat_natCast, reduceCtorEq, decide_true, decide_false, IntWalk.i64_in, IntWalk.u64_in, IntWalk.u8_in, ha1, ha3, ha5, o1, o11, hf, he', hrl, htk]
        rw [slI, nL_len, hl1]
      · simp (disch := omega) only [go_sem, ↓IntWalk.iteOmega, IntWalk.toNatUp, Nat.reduceEqDiff, Nat.reduceAdd, Nat.reduceMul, Nat.reduceSub, Nat.reduceLT, Nat.reduceLeDiff, Int.reduceToNat, Int.reduceLT, Int.reduceLE, Int.reduceEq, Int.reduceAdd, Int.reduceSub, Int.reduceMul, Int.toNat_natCast, reduceCtorEq, decide_true, decide_false, IntWalk.i64_in, IntWalk.u64_in, IntWalk.u8_in, ha1, ha3, ha5, o1, hf, he']
        rw [slI, nL_len, hl1]
    · rw [if_neg he] at hs
      have he' : ¬ ((F.length : Nat) : Int) = (k : Int) := by omega
      rcases hc3 with ⟨ha3, o11⟩ | ha3
      · simp (disch := omega) only [go_sem, ↓IntWalk.iteOmega, IntWalk.toNatUp, Nat.reduceEqDiff, Nat.reduceAdd, Nat.reduceMul, Nat.reduceSub, Nat.reduceLT, Nat.reduceLeDiff, Int.reduceToNat, Int.reduceLT, Int.reduceLE, Int.reduceEq, Int.reduceAdd, Int.reduceSub, Int.reduceMul, Int.toNat_natCast, reduceCtorEq, decide_true, decide_false, IntWalk.i64_in, IntWalk.u64_in, IntWalk.u8_in, ha1, ha3, ha5, o1, o11, hf, he', hrl, htk]
        exact ⟨r', by omega, r', x, F.length, hs, hl1, rfl, rfl, rfl⟩
      · simp (disch := omega) only [go_sem, ↓IntWalk.iteOmega, IntWalk.toNatUp, Nat.reduceEqDiff, Nat.reduceAdd, Nat.reduceMul, Nat.reduceSub, Nat.reduceLT, Nat.reduceLeDiff, Int.reduceToNat, Int.reduceLT, Int.reduceLE, Int.reduceEq, Int.reduceAdd, Int.reduceSub, Int.reduceMul, Int.toNat_natCast, reduceCtorEq, decide_true, decide_false, IntWalk.i64_in, IntWalk.u64_in, IntWalk.u8_in, ha1, ha3, ha5, o1, hf, he']
        exact ⟨r', by omega, r', x, F.length, hs, hl1, rfl, rfl, rfl⟩
end Go.Proofs.YtpmjpogcaglphaaDoor.A
/- Appending to a slice that may be nil yet: one rule. -/
namespace Go.Proofs.YtpmjpogcaglphaaDoor.A
open Go
theorem HS.app {e sz D : Nat} {o : Ob} {nx : Nat} {v : AV} {n : Nat} {cs : List AV} (h : HS e sz D o nx v n cs) (r b m : Nat) (new : List AV) (hm : 0 < m) (hl : new.length = m * sz) (hok : new.all cellOk = true) (hb : ((n + m : Nat) * b : Int) ≤ maxB) :
    ∃ j, (j = r ∨ j < nx) ∧ ∀ (o' : Ob) (nx' : Nat), (∀ i, o' (i, D) = o (i, D)) → appW (r, D) e sz b v m new o' nx' = some (.ref (j, D) (r, D) 0 (n + m), ⟨upd o' (j, D) (.row ⟨e, sz, (r, D), false, true, cs ++ new⟩), nx'⟩) := by
  rcases h with ⟨rfl, rfl, rfl⟩ | ⟨i, g, rfl, hi, hrow, hlen⟩
  · refine ⟨r, .inl rfl, fun o' nx' _ => ?_⟩
    rw [appW_nil, if_pos ⟨hl, hok⟩, if_neg (by omega), if_pos (by simpa using hb)]
    simp
  · refine ⟨i, .inr hi, fun o' nx' ho => ?_⟩
    have ht : cs.take (n * sz) = cs := take_len hlen
    rw [appW_ref, if_pos ⟨hl, hok⟩, ho i, hrow]
    simp only [rowIf_some, Option.bind_some]
    rw [appR_row, if_pos ⟨by omega, by simpa using hb⟩, ht]
theorem HS.grown {e sz D : Nat} {o : Ob} {nx : Nat} {j r n m : Nat} {cs new : List AV} (hj : j < nx) (ho : o (j, D) = some (.row ⟨e, sz, (r, D), false, true, cs ++ new⟩)) (hc : cs.length = n * sz) (hl : new.length = m * sz) : HS e sz D o nx (.ref (j, D) (r, D) 0 (n + m)) (n + m) (cs ++ new) :=
  .inr ⟨j, _, rfl, hj, ho, by rw [List.length_append, hc, hl, Nat.add_mul]⟩
/-- Rows of these slots, of these rounds, stay. -/
def Frz (ks : List Nat) (n : Nat) (o o' : Ob) : Prop := ∀ j k, j < n → k ∈ ks → o' (j, k) = o (j, k)
theorem Frz.refl (ks n o) : Frz ks n o o := fun _ _ _ _ => rfl
theorem Frz.upd {ks : List Nat} {n : Nat} {o o' : Ob} {j d : Nat} {x : AObj} (h : Frz ks n o o') (hj : n ≤ j ∨ d ∉ ks) : Frz ks n o (A.upd o' (j, d) x) := fun i k hi hk => by
  have e : ¬ (i, k) = (j, d) := fun hc => by
    injection hc with h1 h2
    rcases hj with hj | hj
    · omega
    · exact hj (h2 ▸ hk)
  rw [A.upd, if_neg e]
  exact h i k hi hk
/-- Rows of other slots than these, of these rounds, stay. -/
def Kp (ks : List Nat) (n : Nat) (o o' : Ob) : Prop := ∀ j k, j < n → k ∉ ks → o' (j, k) = o (j, k)
theorem Kp.refl (ks n o) : Kp ks n o o := fun _ _ _ _ => rfl
theorem Kp.upd {ks : List Nat} {n : Nat} {o o' : Ob} {j d : Nat} {x : AObj} (h : Kp ks n o o') (hj : n ≤ j ∨ d ∈ ks) : Kp ks n o (A.upd o' (j, d) x) := fun i k hi hk => by
  have e : ¬ (i, k) = (j, d) := fun hc => by
    injection hc with h1 h2
    rcases hj with hj | hj
    · omega
    · exact hk (h2 ▸ hj)
  rw [A.upd, if_neg e]
  exact h i k hi hk
theorem Kp.more {ks ks' : List Nat} {n : Nat} {o o' : Ob} (h : Kp ks n o o') (hs : ∀ k, k ∉ ks' → k ∉ ks) : Kp ks' n o o' := fun i k hi hk => h i k hi (hs k hk)
theorem Kp.trans {ks : List Nat} {n n' : Nat} {o o' o'' : Ob} (h : Kp ks n o o') (h' : Kp ks n' o' o'') (hn : n ≤ n') : Kp ks n o o'' := fun i k hi hk => (h' i k (by omega) hk).trans (h i k hi hk)
theorem runP_callE {E : Env} {cr : CallR} {k : Nat} {nz : Nat → Option (List (Nat × Nat))} {fn : Func} {c : Code} {args : List AV} {o : Ob} {nx : Nat} {K : AV × AH → Prop} (hb : fn.body = some c)
    (h : WP E cr k nz c (begin_ args) o nx (fun u a o' nx' => (u = .normal ∨ u = .ret) ∧ wO (resultsL E.P a ⟨o', nx'⟩ fn.results.toList) (fun vs => K (tup1 vs, ⟨o', nx'⟩)))) : wO (Option.map (fun p => freezeR false p.1 p.2) (runP E cr k nz fn args ⟨o, nx⟩)) K := by
  obtain ⟨v, H', h1, h2⟩ := runPR_of_WP (Post := fun v o' nx' => K (v, ⟨o', nx'⟩)) hb h
  rw [h1]
  exact h2
theorem HS.tagOf_of {e sz D o nx v n cs} (h : HS e sz D o nx v n cs) : tagOf v = [] ∨ ∃ i, tagOf v = [(i, D)] := by
  rcases h with ⟨rfl, _⟩ | ⟨i, g, rfl, _⟩
  · exact .inl rfl
  · exact .inr ⟨i, rfl⟩
theorem HS.tagAll {e sz D o nx v n cs} (h : HS e sz D o nx v n cs) (p : Tag → Bool) (hp : ∀ i, p (i, D) = true) : (tagOf v).all p = true := by
  rcases h.tagOf_of with e | ⟨i, e⟩ <;> rw [e]
  · rfl
  · simp [hp]
theorem HS.ninOf {e sz D o nx v n cs} (h : HS e sz D o nx v n cs) (i j : Nat) (hj : j ≠ D) : A.nin (i, j) (tagOf v) = true := by
  rcases h.tagOf_of with e | ⟨i, e⟩ <;> rw [e]
  · rfl
  · exact nin_slot (fun t ht => by rw [List.mem_singleton.1 ht]) hj
theorem nin_app (t : Tag) (x y : List Tag) : nin t (x ++ y) = (nin t x && nin t y) := by
  unfold nin
  rw [List.contains_append]
  cases x.contains t <;> cases y.contains t <;> rfl
section
variable {E : Env} {cr : CallR} (st : Nat) (ops : Array Oper) (ty : TypeId) (p : String) (af : Array Edge) (l : List Oper) (a : AAct) (o : Ob) (nx : Nat) (Q : WPost)
@[go_sem] theorem W_insert (t m k x) : WS E cr st ops (⟨none, .insert t m k x, ty, p, af, none⟩ :: l) a o nx Q = wO ((opd a m).bind fun mv => (opd a k).bind fun kv => (opd a x).bind fun vv => aMapUpdate E.P t mv kv vv ⟨o, nx⟩) (kS E cr st ops l a Q) := by
  rw [WS_op]; unfold wO; simp only [evalOp]
  cases opd a m with
  | none => rfl
  | some v =>
    simp only [Option.bind_some]
    cases opd a k with
    | none => rfl
    | some u =>
      simp only [Option.bind_some]
      cases opd a x with
      | none => rfl
      | some y => simp only [Option.bind_some]; cases aMapUpdate E.P t v u y ⟨o, nx⟩ <;> rfl
end
@[go_sem] theorem view_fn (o d f x y) : view o (d + 1) (.fn f x y) = .fn f (x.map (view o d)) (y.map (view o d)) := rfl
end Go.Proofs.YtpmjpogcaglphaaDoor.A
/- The document's least machine. -/
namespace Go.Proofs.YtpmjpogcaglphaaDoor.A
open Go
set_option maxRecDepth 20000
def rkOf (cl : Nat → Nat) (L : List Nat) (k : Nat) : Nat := match L.findIdx? (fun s => cl s == k) with
  | some j => j + 1
  | none => 0
def rkL (cl : Nat → Nat) (n : Nat) (L : List Nat) : List Nat := (List.range n).map (rkOf cl L)
theorem rk_len (cl n L) : (rkL cl n L).length = n := by simp [rkL]
theorem rk_at {cl : Nat → Nat} {n : Nat} {L : List Nat} {k : Nat} (h : k < n) : (rkL cl n L).getD k 0 = rkOf cl L k := by
  unfold rkL
  rw [List.getD_eq_getElem?_getD, List.getElem?_map, List.getElem?_range h]
  rfl
theorem met_old {cl : Nat → Nat} {L : List Nat} {to : Nat} (h : ¬ rkOf cl L (cl to) = 0) : metC cl L to = (rkOf cl L (cl to) - 1, L) := by
  unfold rkOf at *
  unfold metC
  cases hf : L.findIdx? (fun s => cl s == cl to) with
  | some j => rfl
  | none => rw [hf] at h; exact absurd rfl h
theorem met_new {cl : Nat → Nat} {L : List Nat} {to : Nat} (h : rkOf cl L (cl to) = 0) : metC cl L to = (L.length, L ++ [to]) := by
  unfold rkOf at h
  unfold metC
  cases hf : L.findIdx? (fun s => cl s == cl to) with
  | some j => rw [hf] at h; cases h
  | none => rfl
theorem rk_snoc {cl : Nat → Nat} {n : Nat} {L : List Nat} {to : Nat} (h : rkOf cl L (cl to) = 0) : (rkL cl n L).set (cl to) (L.length + 1) = rkL cl n (L ++ [to]) := by
  refine List.ext_getElem (by simp [rkL]) fun i h1 h2 => ?_
  have hi : i < n := by simpa [rkL] using h2
  simp only [rkL, List.getElem_set, List.getElem_map, List.getElem_range]
  unfold rkOf at h ⊢
  rw [List.findIdx?_append]
  by_cases e : cl to = i
  · rw [if_pos e]
    subst e
    cases hf : L.findIdx? (fun s => cl s == cl to) with
    | some j => rw [hf] at h; cases h
    | none => simp [List.findIdx?_cons]
  · rw [if_neg e]
    have : (List.findIdx? (fun s => cl s == i) [to]) = none := by simp [List.findIdx?_cons, e]
    rw [this]
    simp
theorem rk_nil (cl n) : rkL cl n [] = List.replicate n 0 := by
  refine List.ext_getElem (by simp [rkL]) fun i h1 h2 => ?_
  simp [rkL, rkOf]
theorem rk_new {cl : Nat → Nat} {L : List Nat} {to : Nat} (h : rkOf cl L (cl to) = 0) : rkOf cl (L ++ [to]) (cl to) = L.length + 1 := by
  unfold rkOf at h ⊢
  rw [List.findIdx?_append]
  cases hf : L.findIdx? (fun s => cl s == cl to) with
  | some j => rw [hf] at h; cases h
  | none => simp [List.findIdx?_cons]
theorem rk_le (cl L k) : rkOf cl L k ≤ L.length := by
  unfold rkOf
  cases hf : L.findIdx? (fun s => cl s == k) with
  | some j =>
    obtain ⟨hk, _⟩ := List.findIdx?_eq_some_iff_getElem.1 hf
    exact hk
  | none => exact Nat.zero_le _
theorem rk_set (cl : Nat → Nat) (n : Nat) (L : List Nat) (k v : Nat) (hk : k < n) : splice (cI (nL (rkL cl n L))) k [.int .i64 (v : Int)] = cI (nL ((rkL cl n L).set k v)) := by
  rw [cI_set _ _ _ (by rw [nL_len, rk_len]; exact hk)]
  simp [nL, List.map_set]
def RPt (args : List AV) (r : AV) : Prop := ∃ (n : Nat) (N : List Int) (A : List Bool), WfD n N A ∧ args = [dfaV n N A] ∧ r = slI (nL (clsOf N A))
theorem RPt_fn : Fun1 RPt := by
  rintro args r r' ⟨n, N, A, _, rfl, rfl⟩ ⟨n', N', A', _, h, rfl⟩
  simp only [List.cons.injEq, and_true] at h
  obtain ⟨_, h1, h2⟩ := dfaV_inj h
  rw [h1, h2]
theorem RPt_ok (args r) (h : RPt args r) : Ok Tryd.prog 42 args r := by obtain ⟨n, N, A, h1, rfl, rfl⟩ := h; exact parted_ok h1
noncomputable def XPt : FuncId → List AV → Option AV := tabLook [(42, tRel RPt)]
theorem XPt_ok : CPSound Tryd.prog XPt := tab_cons (tab_nil _) (tRel_ok RPt_ok)
theorem cls_len {N A} (h : OkD N A) : (clsOf N A).length = A.length := by
  obtain ⟨_, _, _, c2, F1, c1, F2, h1, h2, he⟩ := cls_spec h
  exact h2.len
theorem XPt_eq {n : Nat} {N : List Int} {A : List Bool} (hw : WfD n N A) : XPt 42 [.agg [.sl n (cI N), .sl n (cB A)]] = some (.sl n (cI (nL (clsOf N A)))) := by
  have := tRel_eq (R := RPt) RPt_fn ⟨n, N, A, hw, rfl, rfl⟩
  rw [dfaV, slB, hw.a, slI, nL_len, cls_len hw.okD, hw.a] at this
  exact this
def nzRM : Nat → Option (List (Nat × Nat))
  | 19 => some [(1, 10)]
  | _ => none
theorem lookRM : lookedAt (EX md0 XPt) nzRM 1 Tryd.f18 = true := by kernel_rfl
abbrev accL (A : List Bool) (L : List Nat) : List Bool := L.map fun s => A.getD s false
theorem goC_succ {cl : Nat → Nat} {nx : Nat → Nat → Nat} {r i : Nat} {L R : List Nat} {p : List Nat × List Nat} (h : goC cl nx r i L R = some p) : ∃ r', r = r' + 1 ∧ (L[i]? = none ∧ p = (L, R) ∨ ∃ x, L[i]? = some x ∧ goC cl nx r' (i + 1) (rowC cl nx x 5 L).2 (R ++ (rowC cl nx x 5 L).1) = some p) := by
  cases r with
  | zero => cases h
  | succ r =>
    refine ⟨r, rfl, ?_⟩
    rw [goC] at h
    cases hx : L[i]? with
    | none =>
      rw [hx] at h
      injection h with h
      exact .inl ⟨rfl, h.symm⟩
    | some x =>
      rw [hx] at h
      exact .inr ⟨x, rfl, h⟩
set_option maxHeartbeats 4000000 in
theorem rmin_wp {n : Nat} {N : List Int} {A : List Bool} (hw : WfD n N A) :
    WP (EX md0 XPt) noR 2005 nzRM (Tryd.f18.body.getD .skip) (begin_ [dfaV n N A]) (fun _ => none) 0 (fun u a o nx => u = .ret ∧ view o vDepth ((aLoad Tryd.prog 27 (a 2) ⟨o, nx⟩).getD .und) = dfaV (minA N A).length (minN N A) (minA N A)) := by
  have hn := hw.sz
  have hN := hw.l
  have hA := hw.a
  have hO := hw.okD
  have hpt := XPt_eq hw
  have hrun := (min_ok hO).run
  have hcl := cls_lt hO
  have hclen := cls_len hO
  have hc0 := hcl 0
  have hres : dfaV (minA N A).length (minN N A) (minA N A) = .agg [.sl (minLR N A).1.length (cI (nL (minLR N A).2)), .sl (minLR N A).1.length (cB (accL A (minLR N A).1))] := by
    rw [dfaV, slB, minA_len]; rfl
  rw [hres]
  generalize minLR N A = P at *
  generalize clsOf N A = c at *
  rw [hA] at hrun hcl hclen hc0
  simp only [Tryd.f18, Option.getD_some]
  rw [dfaV, slB, hA]
  have h0 := nL_at (l := c) (i := 0) (s := 1) (by omega)
  rw [List.drop_zero] at h0
  have hr1 : splice (cI (List.replicate n 0)) (c.getD 0 0) [.int .i64 1] = cI (nL (rkL (fun s => c.getD s 0) n [0])) := by
    have h1 : (rkL (fun s => c.getD s 0) n []).set (c.getD 0 0) 1 = rkL (fun s => c.getD s 0) n [0] := rk_snoc (cl := fun s => c.getD s 0) (n := n) (L := []) (to := 0) (by simp [rkOf])
    have h2 := rk_set (fun s => c.getD s 0) n [] (c.getD 0 0) 1 (by omega)
    rw [h1, rk_nil] at h2
    rw [show nL (List.replicate n 0) = List.replicate n 0 by simp [nL]] at h2
    exact h2
  simp (disch := omega) only [go_sem, ↓IntWalk.iteOmega, IntWalk.toNatUp, Nat.reduceEqDiff, Nat.reduceAdd, Nat.reduceMul, Nat.reduceSub, Nat.reduceLT, Nat.reduceLeDiff, Int.reduceToNat, Int.reduceLT, Int.reduceLE, Int.reduceEq, Int.reduceAdd, Int.reduceSub, Int.reduceMul, Int.toNat_natCast, reduceCtorEq, decide_true, decide_false, IntWalk.i64_in, IntWalk.u64_in, IntWalk.u8_in, hpt, h0, rep_int, hr1]
  have hcl2 := hcl
  obtain ⟨cl, hcle⟩ : ∃ cl : Nat → Nat, cl = fun s => c.getD s 0 := ⟨_, rfl⟩
  have hcla : ∀ s, c.getD s 0 = cl s := fun s => by rw [hcle]
  rw [← hcle] at hrun
  replace hcl : ∀ s, cl s < n := fun s => by rw [← hcla]; exact hcl2 s
  refine WP_loop (fun mm a o nx => ∃ (r i : Nat) (L R : List Nat) (g : Tag) (vN vA : AV), goC cl (nxOf N) r i L R = some P ∧ mm = r ∧ i ≤ L.length ∧ 1 ≤ L.length ∧ DistC cl L ∧ R.length = i * 5 ∧ (∀ s ∈ L, s < n) ∧ 5 ≤ nx ∧ o (0, 1) = some (.row ⟨27, 1, (0, 1), false, true, [.sl n (cI N), .sl n (cB A)]⟩) ∧ o (0, 2) = some (.row ⟨27, 1, (0, 2), false, true, [.nil, .nil]⟩) ∧ o (2, 4) = some (.row ⟨27, 1, (2, 4), false, true, [vN, vA]⟩) ∧
      o (3, 16) = some (.row ⟨3, 1, (3, 16), false, true, cI (nL (rkL cl n L))⟩) ∧ o (4, 17) = some (.row ⟨3, 1, g, false, true, cI (nL L)⟩) ∧ HS 54 5 77 o nx vN i (cI (nL R)) ∧ HS 4 1 90 o nx vA i (cB (accL A (L.take i))) ∧
      a 1 = .ptr (0, 1) (0, 1) 0 ∧ a 2 = .ptr (0, 2) (0, 2) 0 ∧ a 3 = .sl n (cI (nL c)) ∧ a 4 = .ptr (2, 4) (2, 4) 0 ∧ a 5 = .ref (3, 16) (3, 16) 0 n ∧ a 6 = .ref (4, 17) g 0 L.length ∧ a 7 = .int .i64 i) (n + 2) (by omega)
    ⟨n + 2, 0, [0], [], (4, 17), .nil, .nil, hrun, rfl, by simp, by simp, distC_one _ 0, rfl, fun s hs => by rw [List.mem_singleton.1 hs]; omega, by omega, by simp (disch := omega) only [go_sem, ↓IntWalk.iteOmega, IntWalk.toNatUp, Nat.reduceEqDiff, Nat.reduceAdd, Nat.reduceMul, Nat.reduceSub, Nat.reduceLT, Nat.reduceLeDiff, Int.reduceToNat, Int.reduceLT, Int.reduceLE, Int.reduceEq, Int.reduceAdd, Int.reduceSub, Int.reduceMul, Int.toNat_natCast, reduceCtorEq, decide_true, decide_false, IntWalk.i64_in, IntWalk.u64_in, IntWalk.u8_in], by simp (disch := omega) only [go_sem, ↓IntWalk.iteOmega, IntWalk.toNatUp, Nat.reduceEqDiff, Nat.reduceAdd, Nat.reduceMul, Nat.reduceSub, Nat.reduceLT, Nat.reduceLeDiff, Int.reduceToNat, Int.reduceLT, Int.reduceLE, Int.reduceEq, Int.reduceAdd, Int.reduceSub, Int.reduceMul, Int.toNat_natCast, reduceCtorEq, decide_true, decide_false, IntWalk.i64_in, IntWalk.u64_in, IntWalk.u8_in], by simp (disch := omega) only [go_sem, ↓IntWalk.iteOmega, IntWalk.toNatUp, Nat.reduceEqDiff, Nat.reduceAdd, Nat.reduceMul, Nat.reduceSub, Nat.reduceLT, Nat.reduceLeDiff, Int.reduceToNat, Int.reduceLT, Int.reduceLE, Int.reduceEq, Int.reduceAdd, Int.reduceSub, Int.reduceMul, Int.toNat_natCast, reduceCtorEq, decide_true, decide_false, IntWalk.i64_in, IntWalk.u64_in, IntWalk.u8_in], by simp (disch := omega) only [go_sem, ↓IntWalk.iteOmega, IntWalk.toNatUp, Nat.reduceEqDiff, Nat.reduceAdd, Nat.reduceMul, Nat.reduceSub, Nat.reduceLT, Nat.reduceLeDiff, Int.reduceToNat, Int.reduceLT, Int.reduceLE, Int.reduceEq, Int.reduceAdd, Int.reduceSub, Int.reduceMul, Int.toNat_natCast, reduceCtorEq, decide_true, decide_false, IntWalk.i64_in, IntWalk.u64_in, IntWalk.u8_in]; rw [hcle], by simp (disch := omega) only [go_sem, ↓IntWalk.iteOmega, IntWalk.toNatUp, Nat.reduceEqDiff, Nat.reduceAdd, Nat.reduceMul, Nat.reduceSub, Nat.reduceLT, Nat.reduceLeDiff, Int.reduceToNat, Int.reduceLT, Int.reduceLE, Int.reduceEq, Int.reduceAdd, Int.reduceSub, Int.reduceMul, Int.toNat_natCast, reduceCtorEq, decide_true, decide_false, IntWalk.i64_in, IntWalk.u64_in, IntWalk.u8_in]; rfl, HS.nil, HS.nil, by simp (disch := omega) only [go_sem, ↓IntWalk.iteOmega, IntWalk.toNatUp, Nat.reduceEqDiff, Nat.reduceAdd, Nat.reduceMul, Nat.reduceSub, Nat.reduceLT, Nat.reduceLeDiff, Int.reduceToNat, Int.reduceLT, Int.reduceLE, Int.reduceEq, Int.reduceAdd, Int.reduceSub, Int.reduceMul, Int.toNat_natCast, reduceCtorEq, decide_true, decide_false, IntWalk.i64_in, IntWalk.u64_in, IntWalk.u8_in], by simp (disch := omega) only [go_sem, ↓IntWalk.iteOmega, IntWalk.toNatUp, Nat.reduceEqDiff, Nat.reduceAdd, Nat.reduceMul, Nat.reduceSub, Nat.reduceLT, Nat.reduceLeDiff, Int.reduceToNat, Int.reduceLT, Int.reduceLE, Int.reduceEq, Int.reduceAdd, Int.reduceSub, Int.reduceMul, Int.toNat_natCast, reduceCtorEq, decide_true, decide_false, IntWalk.i64_in, IntWalk.u64_in, IntWalk.u8_in], by simp (disch := omega) only [go_sem, ↓IntWalk.iteOmega, IntWalk.toNatUp, Nat.reduceEqDiff, Nat.reduceAdd, Nat.reduceMul, Nat.reduceSub, Nat.reduceLT, Nat.reduceLeDiff, Int.reduceToNat, Int.reduceLT, Int.reduceLE, Int.reduceEq, Int.reduceAdd, Int.reduceSub, Int.reduceMul, Int.toNat_natCast, reduceCtorEq, decide_true, decide_false, IntWalk.i64_in, IntWalk.u64_in, IntWalk.u8_in], by simp (disch := omega) only [go_sem, ↓IntWalk.iteOmega, IntWalk.toNatUp, Nat.reduceEqDiff, Nat.reduceAdd, Nat.reduceMul, Nat.reduceSub, Nat.reduceLT, Nat.reduceLeDiff, Int.reduceToNat, Int.reduceLT, Int.reduceLE, Int.reduceEq, Int.reduceAdd, Int.reduceSub, Int.reduceMul, Int.toNat_natCast, reduceCtorEq, decide_true, decide_false, IntWalk.i64_in, IntWalk.u64_in, IntWalk.u8_in], by simp (disch := omega) only [go_sem, ↓IntWalk.iteOmega, IntWalk.toNatUp, Nat.reduceEqDiff, Nat.reduceAdd, Nat.reduceMul, Nat.reduceSub, Nat.reduceLT, Nat.reduceLeDiff, Int.reduceToNat, Int.reduceLT, Int.reduceLE, Int.reduceEq, Int.reduceAdd, Int.reduceSub, Int.reduceMul, Int.toNat_natCast, reduceCtorEq, decide_true, decide_false, IntWalk.i64_in, IntWalk.u64_in, IntWalk.u8_in], by simp (disch := omega) only [go_sem, ↓IntWalk.iteOmega, IntWalk.toNatUp, Nat.reduceEqDiff, Nat.reduceAdd, Nat.reduceMul, Nat.reduceSub, Nat.reduceLT, Nat.reduceLeDiff, Int.reduceToNat, Int.reduceLT, Int.reduceLE, Int.reduceEq, Int.reduceAdd, Int.reduceSub, Int.reduceMul, Int.toNat_natCast, reduceCtorEq, decide_true, decide_false, IntWalk.i64_in, IntWalk.u64_in, IntWalk.u8_in], by simp (disch := omega) only [go_sem, ↓IntWalk.iteOmega, IntWalk.toNatUp, Nat.reduceEqDiff, Nat.reduceAdd, Nat.reduceMul, Nat.reduceSub, Nat.reduceLT, Nat.reduceLeDiff, Int.reduceToNat, Int.reduceLT, Int.reduceLE, Int.reduceEq, Int.reduceAdd, Int.reduceSub, Int.reduceMul, Int.toNat_natCast, reduceCtorEq, decide_true, decide_false, IntWalk.i64_in, IntWalk.u64_in, IntWalk.u8_in]⟩ ?_
  clear hrun hr1 h0
  rintro mm a o nx ⟨r, i, L, R, g, vN, vA, hG, rfl, hi, hL1, hD, hRl, hLn, hnx, ho1, ho2, ho4, ho16, ho17, hvN, hvA, h1, h2, h3, h4, h5, h6, h7⟩
  obtain ⟨r', rfl, hG'⟩ := goC_succ hG
  clear hG
  by_cases hlt : i < L.length
  · rcases hG' with ⟨hx, _⟩ | ⟨x, hx, hG⟩
    · have := List.getElem?_eq_none_iff.1 hx; omega
    have hxn := hLn x (List.mem_of_getElem? hx)
    have hpre := fun m => (rowC_ok (nx := nxOf N) (x := x) hD m)
    have hall := fun m (hm : m ≤ 5) => rowC_all (cl := cl) (nx := nxOf N) (x := x) (p := fun s => s < n) hLn m (fun j hj => by rw [← hA]; exact hO.next (by omega) (by omega))
    have hLc : L.length ≤ n := distC_le hcl hD
    simp (disch := omega) only [go_sem, ↓IntWalk.iteOmega, IntWalk.toNatUp, Nat.reduceEqDiff, Nat.reduceAdd, Nat.reduceMul, Nat.reduceSub, Nat.reduceLT, Nat.reduceLeDiff, Int.reduceToNat, Int.reduceLT, Int.reduceLE, Int.reduceEq, Int.reduceAdd, Int.reduceSub, Int.reduceMul, Int.toNat_natCast, reduceCtorEq, decide_true, decide_false, IntWalk.i64_in, IntWalk.u64_in, IntWalk.u8_in, h1, h2, h3, h4, h5, h6, h7]
    refine WP_loop (fun mm a o' nx' => ∃ (m : Nat) (g' : Tag), m ≤ 5 ∧ mm = 5 - m ∧ nx + 3 ≤ nx' ∧ Frz [1, 2, 4, 77, 90] nx o o' ∧
      o' (3, 16) = some (.row ⟨3, 1, (3, 16), false, true, cI (nL (rkL cl n (rowC cl (nxOf N) x m L).2))⟩) ∧ o' (4, 17) = some (.row ⟨3, 1, g', false, true, cI (nL (rowC cl (nxOf N) x m L).2)⟩) ∧
      o' (nx + 1, 8) = some (.row ⟨54, 1, (nx + 1, 8), false, true, cI (nL (rowC cl (nxOf N) x m L).1 ++ List.replicate (5 - m) 0)⟩) ∧
      a 1 = .ptr (0, 1) (0, 1) 0 ∧ a 2 = .ptr (0, 2) (0, 2) 0 ∧ a 3 = .sl n (cI (nL c)) ∧ a 4 = .ptr (2, 4) (2, 4) 0 ∧ a 5 = .ref (3, 16) (3, 16) 0 n ∧ a 6 = .ref (4, 17) g' 0 (rowC cl (nxOf N) x m L).2.length ∧ a 7 = .int .i64 i ∧ a 8 = .ptr (nx + 1, 8) (nx + 1, 8) 0 ∧ a 9 = .int .i64 m) 5 (by omega)
      ⟨0, g, by omega, by omega, by omega, (Frz.refl _ _ _).upd (.inl (by omega)), by rw [upd_fst (by omega)]; exact ho16, by rw [upd_fst (by omega)]; exact ho17, upd_same _ _ _, by simp (disch := omega) only [go_sem, ↓IntWalk.iteOmega, IntWalk.toNatUp, Nat.reduceEqDiff, Nat.reduceAdd, Nat.reduceMul, Nat.reduceSub, Nat.reduceLT, Nat.reduceLeDiff, Int.reduceToNat, Int.reduceLT, Int.reduceLE, Int.reduceEq, Int.reduceAdd, Int.reduceSub, Int.reduceMul, Int.toNat_natCast, reduceCtorEq, decide_true, decide_false, IntWalk.i64_in, IntWalk.u64_in, IntWalk.u8_in, h1], by simp (disch := omega) only [go_sem, ↓IntWalk.iteOmega, IntWalk.toNatUp, Nat.reduceEqDiff, Nat.reduceAdd, Nat.reduceMul, Nat.reduceSub, Nat.reduceLT, Nat.reduceLeDiff, Int.reduceToNat, Int.reduceLT, Int.reduceLE, Int.reduceEq, Int.reduceAdd, Int.reduceSub, Int.reduceMul, Int.toNat_natCast, reduceCtorEq, decide_true, decide_false, IntWalk.i64_in, IntWalk.u64_in, IntWalk.u8_in, h2], by simp (disch := omega) only [go_sem, ↓IntWalk.iteOmega, IntWalk.toNatUp, Nat.reduceEqDiff, Nat.reduceAdd, Nat.reduceMul, Nat.reduceSub, Nat.reduceLT, Nat.reduceLeDiff, Int.reduceToNat, Int.reduceLT, Int.reduceLE, Int.reduceEq, Int.reduceAdd, Int.reduceSub, Int.reduceMul, Int.toNat_natCast, reduceCtorEq, decide_true, decide_false, IntWalk.i64_in, IntWalk.u64_in, IntWalk.u8_in, h3], by simp (disch := omega) only [go_sem, ↓IntWalk.iteOmega, IntWalk.toNatUp, Nat.reduceEqDiff, Nat.reduceAdd, Nat.reduceMul, Nat.reduceSub, Nat.reduceLT, Nat.reduceLeDiff, Int.reduceToNat, Int.reduceLT, Int.reduceLE, Int.reduceEq, Int.reduceAdd, Int.reduceSub, Int.reduceMul, Int.toNat_natCast, reduceCtorEq, decide_true, decide_false, IntWalk.i64_in, IntWalk.u64_in, IntWalk.u8_in, h4], by simp (disch := omega) only [go_sem, ↓IntWalk.iteOmega, IntWalk.toNatUp, Nat.reduceEqDiff, Nat.reduceAdd, Nat.reduceMul, Nat.reduceSub, Nat.reduceLT, Nat.reduceLeDiff, Int.reduceToNat, Int.reduceLT, Int.reduceLE, Int.reduceEq, Int.reduceAdd, Int.reduceSub, Int.reduceMul, Int.toNat_natCast, reduceCtorEq, decide_true, decide_false, IntWalk.i64_in, IntWalk.u64_in, IntWalk.u8_in, h5], by simp (disch := omega) only [go_sem, ↓IntWalk.iteOmega, IntWalk.toNatUp, Nat.reduceEqDiff, Nat.reduceAdd, Nat.reduceMul, Nat.reduceSub, Nat.reduceLT, Nat.reduceLeDiff, Int.reduceToNat, Int.reduceLT, Int.reduceLE, Int.reduceEq, Int.reduceAdd, Int.reduceSub, Int.reduceMul, Int.toNat_natCast, reduceCtorEq, decide_true, decide_false, IntWalk.i64_in, IntWalk.u64_in, IntWalk.u8_in, h6]; rfl, by simp (disch := omega) only [go_sem, ↓IntWalk.iteOmega, IntWalk.toNatUp, Nat.reduceEqDiff, Nat.reduceAdd, Nat.reduceMul, Nat.reduceSub, Nat.reduceLT, Nat.reduceLeDiff, Int.reduceToNat, Int.reduceLT, Int.reduceLE, Int.reduceEq, Int.reduceAdd, Int.reduceSub, Int.reduceMul, Int.toNat_natCast, reduceCtorEq, decide_true, decide_false, IntWalk.i64_in, IntWalk.u64_in, IntWalk.u8_in, h7], by simp (disch := omega) only [go_sem, ↓IntWalk.iteOmega, IntWalk.toNatUp, Nat.reduceEqDiff, Nat.reduceAdd, Nat.reduceMul, Nat.reduceSub, Nat.reduceLT, Nat.reduceLeDiff, Int.reduceToNat, Int.reduceLT, Int.reduceLE, Int.reduceEq, Int.reduceAdd, Int.reduceSub, Int.reduceMul, Int.toNat_natCast, reduceCtorEq, decide_true, decide_false, IntWalk.i64_in, IntWalk.u64_in, IntWalk.u8_in], by simp (disch := omega) only [go_sem, ↓IntWalk.iteOmega, IntWalk.toNatUp, Nat.reduceEqDiff, Nat.reduceAdd, Nat.reduceMul, Nat.reduceSub, Nat.reduceLT, Nat.reduceLeDiff, Int.reduceToNat, Int.reduceLT, Int.reduceLE, Int.reduceEq, Int.reduceAdd, Int.reduceSub, Int.reduceMul, Int.toNat_natCast, reduceCtorEq, decide_true, decide_false, IntWalk.i64_in, IntWalk.u64_in, IntWalk.u8_in]⟩ ?_
    clear h1 h2 h3 h4 h5 h6 h7 ho16 ho17
    rintro mm a o' nx' ⟨m, g', hm, rfl, hnx', hkp, ho16, ho17, ho8, h1, h2, h3, h4, h5, h6, h7, h8, h9⟩
    have ho1' := (hkp 0 1 (by omega) (by decide)).trans ho1
    have ho2' := (hkp 0 2 (by omega) (by decide)).trans ho2
    have ho4' := (hkp 2 4 (by omega) (by decide)).trans ho4
    obtain ⟨hD', hpr, hRl', _⟩ := hpre m
    have hx' := hpr i x hx
    have hLn' := hall m hm
    have hLc' := distC_le hcl hD'
    by_cases hm5 : m < 5
    · have hsucc : rowC cl (nxOf N) x (m + 1) L = ((rowC cl (nxOf N) x m L).1 ++ [(metC cl (rowC cl (nxOf N) x m L).2 (nxOf N x m)).1], (metC cl (rowC cl (nxOf N) x m L).2 (nxOf N x m)).2) := rfl
      have hent := hO.e (x * 5 + m) (by omega)
      have hto : N.getD (x * 5 + m) 0 = ((nxOf N x m : Nat) : Int) := by unfold nxOf; omega
      have hton : nxOf N x m < n := by rw [← hA]; exact hO.next (by omega) hm5
      generalize nxOf N x m = to at *
      have hltL : i < (rowC cl (nxOf N) x m L).2.length := (List.getElem?_eq_some_iff.1 hx').1
      generalize (rowC cl (nxOf N) x m L).1 = R' at *
      generalize (rowC cl (nxOf N) x m L).2 = L' at *
      have q1 := nL_at (s := 1) hltL
      rw [getD_of hx'] at q1
      have q2 : take1 false 1 (((cI N).drop (x * 5)).drop m) = some (.int .i64 (to : Nat)) := by
        rw [List.drop_drop, ← hto]; exact cI_get (by omega)
      have q3 := nL_at (l := c) (i := to) (s := 1) (by omega)
      rw [hcla] at q3
      have q4 := nL_at (l := rkL cl n L') (i := cl to) (s := 1) (by rw [rk_len]; exact hcl to)
      rw [rk_at (hcl to)] at q4
      have hclto := hcl to
      have hset := fun k => set_row R' 5 m k hRl' hm5
      have hl8 : (cI (nL R' ++ List.replicate (5 - m) 0)).length = 5 := by rw [cI_length, List.length_append, nL_len, List.length_replicate]; omega
      have hl16 : (cI (nL (rkL cl n L'))).length = n := by rw [cI_length, nL_len, rk_len]
      have hl16' : (cI (nL (rkL cl n (L' ++ [to])))).length = n := by rw [cI_length, nL_len, rk_len]
      by_cases hrk : rkOf cl L' (cl to) = 0
      · rw [met_new hrk] at hsucc
        have hrs := rk_set cl n L' (cl to) (L'.length + 1) (hcl to)
        rw [rk_snoc hrk] at hrs
        have q5 := nL_at (l := rkL cl n (L' ++ [to])) (i := cl to) (s := 1) (by rw [rk_len]; exact hcl to)
        rw [rk_at (hcl to), rk_new hrk] at q5
        have hrk0 : ((rkOf cl L' (cl to) : Nat) : Int) = 0 := by rw [hrk]; rfl
        rw [hrk0] at q4
        have hkl : (cI (nL L')).take L'.length = cI (nL L') := take_len (by rw [cI_length, nL_len])
        have hset : splice (cI (nL R' ++ List.replicate (5 - m) 0)) m [.int .i64 (((L'.length + 1 : Nat) : Int) - 1)] = cI (nL (R' ++ [L'.length]) ++ List.replicate (5 - (m + 1)) 0) := by
          rw [← hset, show ((L'.length + 1 : Nat) : Int) - 1 = (L'.length : Int) by omega]
        simp (disch := omega) only [go_sem, ↓IntWalk.iteOmega, IntWalk.toNatUp, Nat.reduceEqDiff, Nat.reduceAdd, Nat.reduceMul, Nat.reduceSub, Nat.reduceLT, Nat.reduceLeDiff, Int.reduceToNat, Int.reduceLT, Int.reduceLE, Int.reduceEq, Int.reduceAdd, Int.reduceSub, Int.reduceMul, Int.toNat_natCast, reduceCtorEq, decide_true, decide_false, IntWalk.i64_in, IntWalk.u64_in, IntWalk.u8_in, nzRM, h1, h2, h3, h4, h5, h6, h7, h8, h9, ho1', ho16, ho17, ho8, q1, q2, q3, q4, q5, hrs, hset, hl8, hl16, hl16', hkl, nL_len]
        exact ⟨5 - (m + 1), by omega, m + 1, (nx' + 1 + 1 + 1, 54), by omega, rfl, by omega, (((hkp.upd (.inr (by decide))).upd (.inr (by decide))).upd (.inr (by decide))).upd (.inl (by omega)), by rw [hsucc], by rw [hsucc]; simp [nL, cI], by rw [hsucc], by rw [hsucc]; simp, rfl⟩
      · rw [met_old hrk] at hsucc
        have hrk0 : ¬ ((rkOf cl L' (cl to) : Nat) : Int) = 0 := by omega
        have hcc : ((rkOf cl L' (cl to) : Nat) : Int) - 1 = ((rkOf cl L' (cl to) - 1 : Nat) : Int) := by omega
        have hset := hset (rkOf cl L' (cl to) - 1)
        have hqle := rk_le cl L' (cl to)
        generalize rkOf cl L' (cl to) = q at *
        rw [← hcc] at hset
        simp (disch := omega) only [go_sem, ↓IntWalk.iteOmega, IntWalk.toNatUp, Nat.reduceEqDiff, Nat.reduceAdd, Nat.reduceMul, Nat.reduceSub, Nat.reduceLT, Nat.reduceLeDiff, Int.reduceToNat, Int.reduceLT, Int.reduceLE, Int.reduceEq, Int.reduceAdd, Int.reduceSub, Int.reduceMul, Int.toNat_natCast, reduceCtorEq, decide_true, decide_false, IntWalk.i64_in, IntWalk.u64_in, IntWalk.u8_in, nzRM, h1, h2, h3, h4, h5, h6, h7, h8, h9, ho1', ho16, ho17, ho8, q1, q2, q3, q4, hset, hl8, hl16, hrk0]
        exact ⟨5 - (m + 1), by omega, m + 1, g', by omega, rfl, by omega, hkp.upd (.inl (by omega)), by rw [hsucc], by rw [hsucc], by rw [hsucc], by rw [hsucc], rfl⟩
    · have hme : m = 5 := by omega
      subst hme
      have hLi : accL A ((rowC cl (nxOf N) x 5 L).2.take (i + 1)) = accL A (L.take i) ++ [A.getD x false] := by
        rw [List.take_add_one, hx']
        have : (rowC cl (nxOf N) x 5 L).2.take i = L.take i := by
          refine List.ext_getElem? fun j => ?_
          rw [List.getElem?_take, List.getElem?_take]
          by_cases hj : j < i
          · rw [if_pos hj, if_pos hj, hpr j _ (List.getElem?_eq_getElem (show j < L.length by omega)), List.getElem?_eq_getElem (show j < L.length by omega)]
          · rw [if_neg hj, if_neg hj]
        rw [this]
        simp
      have hltL : i < (rowC cl (nxOf N) x 5 L).2.length := (List.getElem?_eq_some_iff.1 hx').1
      generalize (rowC cl (nxOf N) x 5 L).1 = R' at *
      generalize (rowC cl (nxOf N) x 5 L).2 = L' at *
      have q1 := nL_at (s := 1) hltL
      rw [getD_of hx'] at q1
      have q2 := cB_get (l := A) (i := x) (s := 1) (by omega)
      have hvN' := hvN.keep (fun j hj => hkp j 77 hj (by decide)) (show nx ≤ nx' by omega)
      have hvA' := hvA.keep (fun j hj => hkp j 90 hj (by decide)) (show nx ≤ nx' by omega)
      rw [Nat.sub_self, List.replicate_zero, List.append_nil] at ho8
      have hl5 : (cI (nL R')).length = 5 := by rw [cI_length, nL_len, hRl']
      have htk5 : (cI (nL R')).take 5 = cI (nL R') := take_len hl5
      have hok5 := cI_ok (nL R')
      obtain ⟨j8, hj8, hap8⟩ := hvN'.app (nx' + 1) 40 1 (cI (nL R')) (by omega) (by rw [hl5]) hok5 (by simp only [maxB]; omega)
      obtain ⟨j9, hj9, hap9⟩ := hvA'.app (nx' + 2) 1 1 [.bool (A.getD x false)] (by omega) rfl rfl (by simp only [maxB]; omega)
      have hRR : cI (nL (R ++ R')) = cI (nL R) ++ cI (nL R') := by rw [nL_app, cI_app]
      have hokN := hvN'.ok
      have hokA := hvA'.ok
      have hlR : (cI (nL R)).length = i * 5 := by rw [cI_length, nL_len, hRl]
      have hlAc : (cB (accL A (L.take i))).length = i * 1 := by rw [cB_length, List.length_map, List.length_take]; omega
      simp (disch := first | omega | (intro _; simp only [upd_app, Nat.reduceEqDiff, if_false])) only [go_sem, ↓IntWalk.iteOmega, IntWalk.toNatUp, Nat.reduceEqDiff, Nat.reduceAdd, Nat.reduceMul, Nat.reduceSub, Nat.reduceLT, Nat.reduceLeDiff, Int.reduceToNat, Int.reduceLT, Int.reduceLE, Int.reduceEq, Int.reduceAdd, Int.reduceSub, Int.reduceMul, Int.toNat_natCast, reduceCtorEq, decide_true, decide_false, IntWalk.i64_in, IntWalk.u64_in, IntWalk.u8_in, nzRM, h1, h2, h3, h4, h5, h6, h7, h8, h9, ho1', ho4', ho8, ho17, q1, q2, hl5, htk5, hok5, hap8, hap9, hokN, hokA]
      refine ⟨r', by omega, r', i + 1, L', R ++ R', g', _, _, hG, rfl, by omega, by omega, hD', by rw [List.length_append, hRl, hRl']; omega, hLn', by omega, ho2', rfl, ho16, rfl, ?_, ?_, rfl, rfl⟩
      · rw [hRR]
        exact HS.grown (m := 1) (by omega) (by simp [upd_app]) hlR (by rw [hl5])
      · rw [hLi, cB_app]
        exact HS.grown (m := 1) (new := [.bool (A.getD x false)]) (by omega) (by simp [upd_app]) hlAc rfl
  · rcases hG' with ⟨hx, hP⟩ | ⟨x, hx, _⟩
    · subst hP
      have hie : i = L.length := by omega
      subst hie
      rw [List.take_length] at hvA
      have e1 : ∀ y, view (upd o (0, 2) y) 1011 vN = .sl L.length (cI (nL R)) := fun y => by rw [(hvN.keep (o' := upd o (0, 2) y) (nx' := nx) (fun i hi => by simp [upd_app]) (Nat.le_refl _)).view 1010, view_cI]
      have e2 : ∀ y, view (upd o (0, 2) y) 1011 vA = .sl L.length (cB (accL A L)) := fun y => by rw [(hvA.keep (o' := upd o (0, 2) y) (nx' := nx) (fun i hi => by simp [upd_app]) (Nat.le_refl _)).view 1010, view_cB]
      have e3 := hvN.ok
      have e4 := hvA.ok
      simp (disch := omega) only [go_sem, ↓IntWalk.iteOmega, IntWalk.toNatUp, Nat.reduceEqDiff, Nat.reduceAdd, Nat.reduceMul, Nat.reduceSub, Nat.reduceLT, Nat.reduceLeDiff, Int.reduceToNat, Int.reduceLT, Int.reduceLE, Int.reduceEq, Int.reduceAdd, Int.reduceSub, Int.reduceMul, Int.toNat_natCast, reduceCtorEq, decide_true, decide_false, IntWalk.i64_in, IntWalk.u64_in, IntWalk.u8_in, nzRM, h1, h2, h3, h4, h5, h6, h7, ho2, ho4, e1, e2, e3, e4]
    · have := (List.getElem?_eq_some_iff.1 hx).1; omega
theorem rmin_ok {n : Nat} {N : List Int} {A : List Bool} (hw : WfD n N A) : Ok Tryd.prog 18 [dfaV n N A] (dfaV (minA N A).length (minN N A) (minA N A)) := by
  refine ok_of_WP (E := EX md0 XPt) (cr := noR) XPt_ok (noR_ok _) mixed (k := 2005) Tryd.func18 lookRM rfl (WP_mono (rmin_wp hw) ?_)
  rintro u a o nx ⟨rfl, h⟩
  refine ⟨.inr rfl, ?_⟩
  simp only [Tryd.f18, resultsL_cons, resultsL_nil, result1_cell, result1_tmp]
  cases hl : aLoad Tryd.prog 27 (a 2) ⟨o, nx⟩ with
  | none =>
    rw [hl] at h
    cases h
  | some v =>
    rw [hl] at h
    show wO (consO (aLoad Tryd.prog 27 (a 2) ⟨o, nx⟩) (some [])) _
    rw [hl]
    exact h
def RMin (args : List AV) (r : AV) : Prop := ∃ (n : Nat) (N : List Int) (A : List Bool), WfD n N A ∧ args = [dfaV n N A] ∧ r = dfaV (minA N A).length (minN N A) (minA N A)
theorem RMin_fn : Fun1 RMin := by
  rintro args r r' ⟨n, N, A, _, rfl, rfl⟩ ⟨n', N', A', _, h, rfl⟩
  simp only [List.cons.injEq, and_true] at h
  obtain ⟨_, h1, h2⟩ := dfaV_inj h
  rw [h1, h2]
theorem RMin_ref (args r) (h : RMin args r) : Ok Tryd.prog 18 args r := by obtain ⟨n, N, A, h1, rfl, rfl⟩ := h; exact rmin_ok h1
end Go.Proofs.YtpmjpogcaglphaaDoor.A
