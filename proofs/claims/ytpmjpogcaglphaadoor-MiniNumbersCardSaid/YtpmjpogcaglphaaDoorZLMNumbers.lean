/- MiniNumbers answers true for whatever it is called with; the input reads as it did. -/
import Derived.Test.YtpmjpogcaglphaaDoorME91
import Derived.Test.YtpmjpogcaglphaaDoorME92
import Derived.Test.YtpmjpogcaglphaaDoorME93
import Derived.Test.YtpmjpogcaglphaaDoorME94
import Derived.Test.YtpmjpogcaglphaaDoorME95
import Derived.Test.YtpmjpogcaglphaaDoorME96
import Derived.Test.YtpmjpogcaglphaaDoorME97
import Derived.Test.YtpmjpogcaglphaaDoorME98
import Derived.Test.YtpmjpogcaglphaaDoorME99
set_option linter.unusedVariables false
set_option linter.unusedSimpArgs false
set_option linter.unnecessarySimpa false
namespace Go.Proofs.YtpmjpogcaglphaaDoor.A
open Go
set_option maxRecDepth 20000
def nzMN : Nat → Option (List (Nat × Nat))
  | 15 => some [(1, 3), (1, 5), (3, 5)]
  | 24 => some [(1, 2)]
  | _ => none
theorem lookMNu : lookedAt (EX md0 XM0) nzMN 4 Tryd.f8 = true := by kernel_rfl
theorem swap_cells {t : List Nat} {a b : Nat} (ha : a < t.length) (hb : b < t.length) : splice (splice (cI (nL t)) a [.int .i64 (t.getD b 0 : Nat)]) b [.int .i64 (t.getD a 0 : Nat)] = cI (nL (swapL t a b)) := by
  rw [cI_set _ _ _ (by rw [nL_len]; exact ha), cI_set _ _ _ (by rw [List.length_set, nL_len]; exact hb)]
  simp [swapL, nL, List.map_set]
theorem getD_setN (l : List Int) (i j : Nat) (x : Int) (hi : i < l.length) : (l.set i x).getD j 0 = if i = j then x else l.getD j 0 := getD_set l i j x 0 hi
theorem rep_five (n : Nat) : rep [AV.int .i64 0, .int .i64 0, .int .i64 0, .int .i64 0, .int .i64 0] n = cI (List.replicate (5 * n) 0) := by
  induction n with
  | zero => rfl
  | succ n ih => rw [rep_succ, ih, show 5 * (n + 1) = 5 + 5 * n by omega, ← List.replicate_append_replicate, cI_app]; rfl
/-- The places of a machine's states, numbered another way, filled up to one. -/
def FilM (n : Nat) (t : List Nat) (N M : List Int) (i j : Nat) : Prop := ∀ i' j', (i' < i ∨ i' = i ∧ j' < j) → i' < n → j' < 5 → M.getD (t.getD i' 0 * 5 + j') 0 = (t.getD (N.getD (i' * 5 + j') 0).toNat 0 : Int)
set_option maxHeartbeats 4000000 in
theorem mnum_tail {n : Nat} {N : List Int} {A : List Bool} (hw : WfD n N A) (hn9 : n ≤ 9) {t : List Nat} (hP : PermL n t) (ht0 : t.getD 0 0 = 0) {iT : Nat} {gT : Tag} {a : AAct} {o : Ob} {nx : Nat} (hnx : 3 ≤ nx) (hiT : iT < nx)
    (oT : o (iT, 36) = some (.row ⟨3, 1, gT, false, true, cI (nL t)⟩)) (o9 : o (2, 9) = some (.row ⟨27, 1, (2, 9), false, true, [.sl n (cI N), .sl n (cB A)]⟩))
    (h9 : a 9 = .ptr (2, 9) (2, 9) 0) (h10 : a 10 = .int .i64 n) (h11 : a 11 = .ref (iT, 36) gT 0 n) :
    WP (EX md0 XM0) noR 25 nzMN (pathC [1, 1, 1, 1, 1, 1, 1] (Tryd.f8.body.getD .skip)) a o nx (fun u a o nx => (u = .normal ∨ u = .ret) ∧ view o vDepth (a 8) = .bool true) := by
  have hO := hw.okD
  have hA := hw.a
  have hN := hw.l
  have hsz := hw.sz
  have htl := hP.len
  have hl := cI_length (nL t)
  rw [nL_len, htl] at hl
  have htlt : ∀ i, i < n → t.getD i 0 < n := fun i hi => hP.lt _ _ (hP.get hi)
  simp only [Tryd.f8, Option.getD_some, pathC]
  simp (disch := omega) only [go_sem, ↓IntWalk.iteOmega, IntWalk.toNatUp, Nat.reduceEqDiff, Nat.reduceAdd, Nat.reduceMul, Nat.reduceSub, Nat.reduceLT, Nat.reduceLeDiff, Int.reduceToNat, Int.reduceLT, Int.reduceLE, Int.reduceEq, Int.reduceAdd, Int.reduceSub, Int.reduceMul, Int.toNat_natCast, reduceCtorEq, decide_true, decide_false, IntWalk.i64_in, IntWalk.u64_in, IntWalk.u8_in, h9, h10, h11, nzMN]
  refine WP_loop (fun mm a o' nx' => ∃ (i : Nat) (M : List Int) (B : List Bool), i ≤ n ∧ mm = n - i ∧ nx + 2 ≤ nx' ∧ M.length = 5 * n ∧ B.length = n ∧ FilM n t N M i 0 ∧ (∀ i', i' < i → B.getD (t.getD i' 0) false = A.getD i' false) ∧
      o' (nx, 79) = some (.row ⟨54, 5, (nx, 79), false, true, cI M⟩) ∧ o' (nx, 81) = some (.row ⟨4, 1, (nx, 81), false, true, cB B⟩) ∧ o' (nx, 16) = some (.row ⟨27, 1, (nx, 16), false, true, [.ref (nx, 79) (nx, 79) 0 n, .ref (nx, 81) (nx, 81) 0 n]⟩) ∧
      o' (2, 9) = some (.row ⟨27, 1, (2, 9), false, true, [.sl n (cI N), .sl n (cB A)]⟩) ∧ o' (iT, 36) = some (.row ⟨3, 1, gT, false, true, cI (nL t)⟩) ∧
      a 9 = .ptr (2, 9) (2, 9) 0 ∧ a 10 = .int .i64 n ∧ a 11 = .ref (iT, 36) gT 0 n ∧ a 16 = .ptr (nx, 16) (nx, 16) 0 ∧ a 17 = .int .i64 i) n (by omega)
    ⟨0, List.replicate (5 * n) 0, List.replicate n false, by omega, by omega, by omega, by simp, by simp, fun i' j' h => by omega, fun i' h => by omega, ?_, ?_, ?_, ?_, ?_, by simp (disch := omega) only [go_sem, ↓IntWalk.iteOmega, IntWalk.toNatUp, Nat.reduceEqDiff, Nat.reduceAdd, Nat.reduceMul, Nat.reduceSub, Nat.reduceLT, Nat.reduceLeDiff, Int.reduceToNat, Int.reduceLT, Int.reduceLE, Int.reduceEq, Int.reduceAdd, Int.reduceSub, Int.reduceMul, Int.toNat_natCast, reduceCtorEq, decide_true, decide_false, IntWalk.i64_in, IntWalk.u64_in, IntWalk.u8_in, h9], by simp (disch := omega) only [go_sem, ↓IntWalk.iteOmega, IntWalk.toNatUp, Nat.reduceEqDiff, Nat.reduceAdd, Nat.reduceMul, Nat.reduceSub, Nat.reduceLT, Nat.reduceLeDiff, Int.reduceToNat, Int.reduceLT, Int.reduceLE, Int.reduceEq, Int.reduceAdd, Int.reduceSub, Int.reduceMul, Int.toNat_natCast, reduceCtorEq, decide_true, decide_false, IntWalk.i64_in, IntWalk.u64_in, IntWalk.u8_in, h10], by simp (disch := omega) only [go_sem, ↓IntWalk.iteOmega, IntWalk.toNatUp, Nat.reduceEqDiff, Nat.reduceAdd, Nat.reduceMul, Nat.reduceSub, Nat.reduceLT, Nat.reduceLeDiff, Int.reduceToNat, Int.reduceLT, Int.reduceLE, Int.reduceEq, Int.reduceAdd, Int.reduceSub, Int.reduceMul, Int.toNat_natCast, reduceCtorEq, decide_true, decide_false, IntWalk.i64_in, IntWalk.u64_in, IntWalk.u8_in, h11], by simp (disch := omega) only [go_sem, ↓IntWalk.iteOmega, IntWalk.toNatUp, Nat.reduceEqDiff, Nat.reduceAdd, Nat.reduceMul, Nat.reduceSub, Nat.reduceLT, Nat.reduceLeDiff, Int.reduceToNat, Int.reduceLT, Int.reduceLE, Int.reduceEq, Int.reduceAdd, Int.reduceSub, Int.reduceMul, Int.toNat_natCast, reduceCtorEq, decide_true, decide_false, IntWalk.i64_in, IntWalk.u64_in, IntWalk.u8_in], by simp (disch := omega) only [go_sem, ↓IntWalk.iteOmega, IntWalk.toNatUp, Nat.reduceEqDiff, Nat.reduceAdd, Nat.reduceMul, Nat.reduceSub, Nat.reduceLT, Nat.reduceLeDiff, Int.reduceToNat, Int.reduceLT, Int.reduceLE, Int.reduceEq, Int.reduceAdd, Int.reduceSub, Int.reduceMul, Int.toNat_natCast, reduceCtorEq, decide_true, decide_false, IntWalk.i64_in, IntWalk.u64_in, IntWalk.u8_in]⟩ ?_
  · simp (disch := omega) only [go_sem, ↓IntWalk.iteOmega, IntWalk.toNatUp, Nat.reduceEqDiff, Nat.reduceAdd, Nat.reduceMul, Nat.reduceSub, Nat.reduceLT, Nat.reduceLeDiff, Int.reduceToNat, Int.reduceLT, Int.reduceLE, Int.reduceEq, Int.reduceAdd, Int.reduceSub, Int.reduceMul, Int.toNat_natCast, reduceCtorEq, decide_true, decide_false, IntWalk.i64_in, IntWalk.u64_in, IntWalk.u8_in, rep_five, rep_bool]
  · simp (disch := omega) only [go_sem, ↓IntWalk.iteOmega, IntWalk.toNatUp, Nat.reduceEqDiff, Nat.reduceAdd, Nat.reduceMul, Nat.reduceSub, Nat.reduceLT, Nat.reduceLeDiff, Int.reduceToNat, Int.reduceLT, Int.reduceLE, Int.reduceEq, Int.reduceAdd, Int.reduceSub, Int.reduceMul, Int.toNat_natCast, reduceCtorEq, decide_true, decide_false, IntWalk.i64_in, IntWalk.u64_in, IntWalk.u8_in, rep_five, rep_bool]
  · simp (disch := omega) only [go_sem, ↓IntWalk.iteOmega, IntWalk.toNatUp, Nat.reduceEqDiff, Nat.reduceAdd, Nat.reduceMul, Nat.reduceSub, Nat.reduceLT, Nat.reduceLeDiff, Int.reduceToNat, Int.reduceLT, Int.reduceLE, Int.reduceEq, Int.reduceAdd, Int.reduceSub, Int.reduceMul, Int.toNat_natCast, reduceCtorEq, decide_true, decide_false, IntWalk.i64_in, IntWalk.u64_in, IntWalk.u8_in]
  · simp (disch := omega) only [go_sem, ↓IntWalk.iteOmega, IntWalk.toNatUp, Nat.reduceEqDiff, Nat.reduceAdd, Nat.reduceMul, Nat.reduceSub, Nat.reduceLT, Nat.reduceLeDiff, Int.reduceToNat, Int.reduceLT, Int.reduceLE, Int.reduceEq, Int.reduceAdd, Int.reduceSub, Int.reduceMul, Int.toNat_natCast, reduceCtorEq, decide_true, decide_false, IntWalk.i64_in, IntWalk.u64_in, IntWalk.u8_in, o9]
  · simp (disch := omega) only [go_sem, ↓IntWalk.iteOmega, IntWalk.toNatUp, Nat.reduceEqDiff, Nat.reduceAdd, Nat.reduceMul, Nat.reduceSub, Nat.reduceLT, Nat.reduceLeDiff, Int.reduceToNat, Int.reduceLT, Int.reduceLE, Int.reduceEq, Int.reduceAdd, Int.reduceSub, Int.reduceMul, Int.toNat_natCast, reduceCtorEq, decide_true, decide_false, IntWalk.i64_in, IntWalk.u64_in, IntWalk.u8_in, oT]
  clear h9 h10 h11 o9 oT
  rintro mm a o' nx' ⟨i, M, B, hi, rfl, hnx', hMl, hBl, hF, hB, o79, o81, o16, o9, oT, h9, h10, h11, h16, h17⟩
  by_cases hlt : i < n
  · simp (disch := omega) only [go_sem, ↓IntWalk.iteOmega, IntWalk.toNatUp, Nat.reduceEqDiff, Nat.reduceAdd, Nat.reduceMul, Nat.reduceSub, Nat.reduceLT, Nat.reduceLeDiff, Int.reduceToNat, Int.reduceLT, Int.reduceLE, Int.reduceEq, Int.reduceAdd, Int.reduceSub, Int.reduceMul, Int.toNat_natCast, reduceCtorEq, decide_true, decide_false, IntWalk.i64_in, IntWalk.u64_in, IntWalk.u8_in, h9, h10, h11, h16, h17, nzMN]
    refine WP_loop (fun mm a o'' nx'' => ∃ (j : Nat) (M' : List Int), j ≤ 5 ∧ mm = 5 - j ∧ nx + 2 ≤ nx'' ∧ M'.length = 5 * n ∧ FilM n t N M' i j ∧
        o'' (nx, 79) = some (.row ⟨54, 5, (nx, 79), false, true, cI M'⟩) ∧ o'' (nx, 81) = some (.row ⟨4, 1, (nx, 81), false, true, cB B⟩) ∧ o'' (nx, 16) = some (.row ⟨27, 1, (nx, 16), false, true, [.ref (nx, 79) (nx, 79) 0 n, .ref (nx, 81) (nx, 81) 0 n]⟩) ∧
        o'' (2, 9) = some (.row ⟨27, 1, (2, 9), false, true, [.sl n (cI N), .sl n (cB A)]⟩) ∧ o'' (iT, 36) = some (.row ⟨3, 1, gT, false, true, cI (nL t)⟩) ∧
        a 9 = .ptr (2, 9) (2, 9) 0 ∧ a 10 = .int .i64 n ∧ a 11 = .ref (iT, 36) gT 0 n ∧ a 16 = .ptr (nx, 16) (nx, 16) 0 ∧ a 17 = .int .i64 i ∧ a 18 = .int .i64 j) 5 (by omega)
      ⟨0, M, by omega, by omega, by omega, hMl, hF, o79, o81, o16, o9, oT, by simp (disch := omega) only [go_sem, ↓IntWalk.iteOmega, IntWalk.toNatUp, Nat.reduceEqDiff, Nat.reduceAdd, Nat.reduceMul, Nat.reduceSub, Nat.reduceLT, Nat.reduceLeDiff, Int.reduceToNat, Int.reduceLT, Int.reduceLE, Int.reduceEq, Int.reduceAdd, Int.reduceSub, Int.reduceMul, Int.toNat_natCast, reduceCtorEq, decide_true, decide_false, IntWalk.i64_in, IntWalk.u64_in, IntWalk.u8_in, h9], by simp (disch := omega) only [go_sem, ↓IntWalk.iteOmega, IntWalk.toNatUp, Nat.reduceEqDiff, Nat.reduceAdd, Nat.reduceMul, Nat.reduceSub, Nat.reduceLT, Nat.reduceLeDiff, Int.reduceToNat, Int.reduceLT, Int.reduceLE, Int.reduceEq, Int.reduceAdd, Int.reduceSub, Int.reduceMul, Int.toNat_natCast, reduceCtorEq, decide_true, decide_false, IntWalk.i64_in, IntWalk.u64_in, IntWalk.u8_in, h10], by simp (disch := omega) only [go_sem, ↓IntWalk.iteOmega, IntWalk.toNatUp, Nat.reduceEqDiff, Nat.reduceAdd, Nat.reduceMul, Nat.reduceSub, Nat.reduceLT, Nat.reduceLeDiff, Int.reduceToNat, Int.reduceLT, Int.reduceLE, Int.reduceEq, Int.reduceAdd, Int.reduceSub, Int.reduceMul, Int.toNat_natCast, reduceCtorEq, decide_true, decide_false, IntWalk.i64_in, IntWalk.u64_in, IntWalk.u8_in, h11], by simp (disch := omega) only [go_sem, ↓IntWalk.iteOmega, IntWalk.toNatUp, Nat.reduceEqDiff, Nat.reduceAdd, Nat.reduceMul, Nat.reduceSub, Nat.reduceLT, Nat.reduceLeDiff, Int.reduceToNat, Int.reduceLT, Int.reduceLE, Int.reduceEq, Int.reduceAdd, Int.reduceSub, Int.reduceMul, Int.toNat_natCast, reduceCtorEq, decide_true, decide_false, IntWalk.i64_in, IntWalk.u64_in, IntWalk.u8_in, h16], by simp (disch := omega) only [go_sem, ↓IntWalk.iteOmega, IntWalk.toNatUp, Nat.reduceEqDiff, Nat.reduceAdd, Nat.reduceMul, Nat.reduceSub, Nat.reduceLT, Nat.reduceLeDiff, Int.reduceToNat, Int.reduceLT, Int.reduceLE, Int.reduceEq, Int.reduceAdd, Int.reduceSub, Int.reduceMul, Int.toNat_natCast, reduceCtorEq, decide_true, decide_false, IntWalk.i64_in, IntWalk.u64_in, IntWalk.u8_in, h17], by simp (disch := omega) only [go_sem, ↓IntWalk.iteOmega, IntWalk.toNatUp, Nat.reduceEqDiff, Nat.reduceAdd, Nat.reduceMul, Nat.reduceSub, Nat.reduceLT, Nat.reduceLeDiff, Int.reduceToNat, Int.reduceLT, Int.reduceLE, Int.reduceEq, Int.reduceAdd, Int.reduceSub, Int.reduceMul, Int.toNat_natCast, reduceCtorEq, decide_true, decide_false, IntWalk.i64_in, IntWalk.u64_in, IntWalk.u8_in]⟩ ?_
    clear h9 h10 h11 h16 h17 o79 o81 o16 o9 oT hMl hF M hnx'
    rintro mm a o'' nx'' ⟨j, M, hj, rfl, hnx'', hMl, hF, o79, o81, o16, o9, oT, h9, h10, h11, h16, h17, h18⟩
    have q1 := nL_at (l := t) (i := i) (s := 1) (by omega)
    have hpn := htlt i hlt
    by_cases hj5 : j < 5
    · have hx := hw.get (k := i * 5 + j) (by omega)
      have hent : N.getD (i * 5 + j) 0 = ((N.getD (i * 5 + j) 0).toNat : Nat) := by omega
      have hton : (N.getD (i * 5 + j) 0).toNat < n := by omega
      have hnew : FilM n t N (M.set (t.getD i 0 * 5 + j) (t.getD (N.getD (i * 5 + j) 0).toNat 0 : Nat)) i (j + 1) := fun i' j' h hi' hj' => by
        rw [getD_setN _ _ _ _ (by omega)]
        by_cases e : t.getD i 0 * 5 + j = t.getD i' 0 * 5 + j'
        · have e1 : t.getD i 0 = t.getD i' 0 := by omega
          have e2 : j = j' := by omega
          have e3 := hP.inj i i' _ (hP.get hlt) (by rw [e1]; exact hP.get hi')
          rw [if_pos e, ← e2, ← e3]
        · rw [if_neg e]
          refine hF i' j' ?_ hi' hj'
          rcases h with h | ⟨h1, h2⟩
          · exact .inl h
          · by_cases hjj : j' = j
            · rw [h1, hjj] at e
              exact absurd rfl e
            · exact .inr ⟨h1, by omega⟩
      have q2 : take1 false 1 (((cI N).drop (i * 5)).drop j) = some (.int .i64 (N.getD (i * 5 + j) 0)) := by
        rw [List.drop_drop]; exact cI_get (by omega)
      generalize (N.getD (i * 5 + j) 0).toNat = to at *
      rw [hent] at q2
      have q3 := nL_at (l := t) (i := to) (s := 1) (by omega)
      have hcs := fun v => cI_set M (t.getD i 0 * 5 + j) v (by omega)
      have hcl : (cI M).length = 5 * n := by rw [cI_length, hMl]
      generalize t.getD i 0 = p at *
      generalize t.getD to 0 = v at *
      simp (disch := omega) only [go_sem, ↓IntWalk.iteOmega, IntWalk.toNatUp, Nat.reduceEqDiff, Nat.reduceAdd, Nat.reduceMul, Nat.reduceSub, Nat.reduceLT, Nat.reduceLeDiff, Int.reduceToNat, Int.reduceLT, Int.reduceLE, Int.reduceEq, Int.reduceAdd, Int.reduceSub, Int.reduceMul, Int.toNat_natCast, reduceCtorEq, decide_true, decide_false, IntWalk.i64_in, IntWalk.u64_in, IntWalk.u8_in, h9, h10, h11, h16, h17, h18, o79, o81, o16, o9, oT, q1, q2, q3, hl, hcs, hcl, nzMN]
      exact ⟨5 - (j + 1), by omega, j + 1, _, by omega, rfl, by omega, by simp [hMl], hnew, rfl, rfl⟩
    · have hje : j = 5 := by omega
      subst hje
      have hnewB : ∀ i', i' < i + 1 → (B.set (t.getD i 0) (A.getD i false)).getD (t.getD i' 0) false = A.getD i' false := fun i' hi' => by
        rw [getD_set _ _ _ _ _ (by omega)]
        by_cases e : t.getD i 0 = t.getD i' 0
        · have e3 := hP.inj i i' _ (hP.get hlt) (by rw [e]; exact hP.get (by omega))
          rw [if_pos e, e3]
        · rw [if_neg e]
          refine hB i' ?_
          by_cases hii : i' = i
          · rw [hii] at e; exact absurd rfl e
          · omega
      have hF' : FilM n t N M (i + 1) 0 := fun i' j' h hi' hj' => hF i' j' (by omega) hi' hj'
      have q2 := cB_get (l := A) (i := i) (s := 1) (by omega)
      have hcs := fun v => cB_set B (t.getD i 0) v (by omega)
      have hcl : (cB B).length = n := by rw [cB_length, hBl]
      generalize A.getD i false = z at *
      generalize t.getD i 0 = p at *
      simp (disch := omega) only [go_sem, ↓IntWalk.iteOmega, IntWalk.toNatUp, Nat.reduceEqDiff, Nat.reduceAdd, Nat.reduceMul, Nat.reduceSub, Nat.reduceLT, Nat.reduceLeDiff, Int.reduceToNat, Int.reduceLT, Int.reduceLE, Int.reduceEq, Int.reduceAdd, Int.reduceSub, Int.reduceMul, Int.toNat_natCast, reduceCtorEq, decide_true, decide_false, IntWalk.i64_in, IntWalk.u64_in, IntWalk.u8_in, h9, h10, h11, h16, h17, h18, o79, o81, o16, o9, oT, q1, q2, hl, hcs, hcl, nzMN]
      exact ⟨n - (i + 1), by omega, i + 1, M, _, by omega, rfl, by omega, hMl, by simp [hBl], hF', hnewB, rfl, rfl, rfl⟩
  · have hie : i = n := by omega
    subst hie
    have hM : ∀ i' j, i' < i → j < 5 → M.getD (t.getD i' 0 * 5 + j) 0 = (t.getD (N.getD (i' * 5 + j) 0).toNat 0 : Int) := fun i' j hi' hj => hF i' j (.inl hi') hi' hj
    have hk := perm_okD hP hA hO hBl hM
    have hwM : WfD i M B := by
      have := hk.wf (by omega) (by omega)
      rw [hBl] at this
      exact this
    have he := perm_eqv hP hA hO hBl hM hB (show 0 < i by omega)
    rw [ht0] at he
    obtain ⟨e1, e2⟩ := min_one hO hk he
    have hs := perm_steady hP hA hO hM
    have x1 := XM0_min hw
    have x2 := XM0_min hwM
    rw [← e1, ← e2] at x2
    have x3 := XM0_st hw
    have x4 := XM0_st hwM
    rw [hs] at x4
    have hm := min_wf hw
    have x5 := XM0_same hm hm
    rw [decide_eq_true ⟨rfl, rfl⟩] at x5
    have b1 : (steadyM i N == steadyM i N) = true := beq_self_eq_true _
    generalize steadyM i N = z1 at *
    generalize minN N A = M2 at *
    generalize minA N A = B2 at *
    have l1 : (cI M).length = i * 5 := by rw [cI_length, hMl]; omega
    have l2 : (cI M).take (i * 5) = cI M := take_len l1
    have l3 : (cB B).length = i := by rw [cB_length, hBl]
    have l4 : (cB B).take i = cB B := take_len l3
    simp (disch := omega) only [go_sem, ↓IntWalk.iteOmega, IntWalk.toNatUp, Nat.reduceEqDiff, Nat.reduceAdd, Nat.reduceMul, Nat.reduceSub, Nat.reduceLT, Nat.reduceLeDiff, Int.reduceToNat, Int.reduceLT, Int.reduceLE, Int.reduceEq, Int.reduceAdd, Int.reduceSub, Int.reduceMul, Int.toNat_natCast, reduceCtorEq, decide_true, decide_false, IntWalk.i64_in, IntWalk.u64_in, IntWalk.u8_in, h9, h10, h11, h16, h17, o79, o81, o16, o9, oT, x1, x2, x3, x4, x5, b1, l1, l2, l3, l4, nzMN]
set_option maxHeartbeats 4000000 in
theorem mnum_wp (size : Int) (ns : List Int) (acc : Int) (order : List Int) :
    WP (EX md0 XM0) noR 25 nzMN (Tryd.f8.body.getD .skip) (begin_ [.int .i64 size, slI ns, .int .i64 acc, slI order]) (fun _ => none) 0 (fun u a o nx => (u = .normal ∨ u = .ret) ∧ view o vDepth (a 8) = .bool true) := by
  have hw := wf7 size ns acc
  have hkn := XM0_known
  have hmk := XM0_make size ns acc
  have hsz := size7_in size
  generalize hn : size7 size = n at *
  have eN : N7 size ns acc = next7 n ns acc n := by rw [N7, hn]
  have eA : A7 size acc = accs7 acc n := by rw [A7, hn]
  rw [eN, eA] at hmk
  generalize next7 n ns acc n = N at *
  generalize accs7 acc n = A at *
  have hO := hw.okD
  have hA := hw.a
  have hN := hw.l
  obtain ⟨rest, hpath⟩ : ∃ c, c = pathC [1, 1, 1, 1, 1, 1, 1] (Tryd.f8.body.getD .skip) := ⟨_, rfl⟩
  have hpath2 := hpath
  simp only [Tryd.f8, Option.getD_some, pathC] at hpath2
  simp only [Tryd.f8, Option.getD_some]
  rw [← hpath2]
  clear hpath2
  simp (disch := omega) only [go_sem, ↓IntWalk.iteOmega, IntWalk.toNatUp, Nat.reduceEqDiff, Nat.reduceAdd, Nat.reduceMul, Nat.reduceSub, Nat.reduceLT, Nat.reduceLeDiff, Int.reduceToNat, Int.reduceLT, Int.reduceLE, Int.reduceEq, Int.reduceAdd, Int.reduceSub, Int.reduceMul, Int.toNat_natCast, reduceCtorEq, decide_true, decide_false, IntWalk.i64_in, IntWalk.u64_in, IntWalk.u8_in, hkn, hmk, nzMN]
  refine WP_loop (fun mm a o nx => ∃ (i : Nat) (vT : AV), i ≤ n ∧ mm = n - i ∧ 3 ≤ nx ∧ HS 3 1 36 o nx vT i (cI (nL (List.range i))) ∧ a 3 = slI order ∧ a 9 = .ptr (2, 9) (2, 9) 0 ∧ a 10 = .int .i64 n ∧ a 11 = vT ∧ a 12 = .int .i64 i ∧ o (2, 9) = some (.row ⟨27, 1, (2, 9), false, true, [.sl n (cI N), .sl n (cB A)]⟩)) n (by omega) ⟨0, .nil, by omega, by omega, by omega, HS.nil, by simp (disch := omega) only [go_sem, ↓IntWalk.iteOmega, IntWalk.toNatUp, Nat.reduceEqDiff, Nat.reduceAdd, Nat.reduceMul, Nat.reduceSub, Nat.reduceLT, Nat.reduceLeDiff, Int.reduceToNat, Int.reduceLT, Int.reduceLE, Int.reduceEq, Int.reduceAdd, Int.reduceSub, Int.reduceMul, Int.toNat_natCast, reduceCtorEq, decide_true, decide_false, IntWalk.i64_in, IntWalk.u64_in, IntWalk.u8_in], by simp (disch := omega) only [go_sem, ↓IntWalk.iteOmega, IntWalk.toNatUp, Nat.reduceEqDiff, Nat.reduceAdd, Nat.reduceMul, Nat.reduceSub, Nat.reduceLT, Nat.reduceLeDiff, Int.reduceToNat, Int.reduceLT, Int.reduceLE, Int.reduceEq, Int.reduceAdd, Int.reduceSub, Int.reduceMul, Int.toNat_natCast, reduceCtorEq, decide_true, decide_false, IntWalk.i64_in, IntWalk.u64_in, IntWalk.u8_in], by simp (disch := omega) only [go_sem, ↓IntWalk.iteOmega, IntWalk.toNatUp, Nat.reduceEqDiff, Nat.reduceAdd, Nat.reduceMul, Nat.reduceSub, Nat.reduceLT, Nat.reduceLeDiff, Int.reduceToNat, Int.reduceLT, Int.reduceLE, Int.reduceEq, Int.reduceAdd, Int.reduceSub, Int.reduceMul, Int.toNat_natCast, reduceCtorEq, decide_true, decide_false, IntWalk.i64_in, IntWalk.u64_in, IntWalk.u8_in], by simp (disch := omega) only [go_sem, ↓IntWalk.iteOmega, IntWalk.toNatUp, Nat.reduceEqDiff, Nat.reduceAdd, Nat.reduceMul, Nat.reduceSub, Nat.reduceLT, Nat.reduceLeDiff, Int.reduceToNat, Int.reduceLT, Int.reduceLE, Int.reduceEq, Int.reduceAdd, Int.reduceSub, Int.reduceMul, Int.toNat_natCast, reduceCtorEq, decide_true, decide_false, IntWalk.i64_in, IntWalk.u64_in, IntWalk.u8_in], by simp (disch := omega) only [go_sem, ↓IntWalk.iteOmega, IntWalk.toNatUp, Nat.reduceEqDiff, Nat.reduceAdd, Nat.reduceMul, Nat.reduceSub, Nat.reduceLT, Nat.reduceLeDiff, Int.reduceToNat, Int.reduceLT, Int.reduceLE, Int.reduceEq, Int.reduceAdd, Int.reduceSub, Int.reduceMul, Int.toNat_natCast, reduceCtorEq, decide_true, decide_false, IntWalk.i64_in, IntWalk.u64_in, IntWalk.u8_in], by simp [upd_app]⟩ ?_
  rintro mm a o nx ⟨i, vT, hi, rfl, hnx, hT, h3, h9, h10, h11, h12, o9⟩
  by_cases hlt : i < n
  · have hdl : (cI (nL (List.range i))).length = i * 1 := by rw [cI_length, nL_len, List.length_range]; omega
    obtain ⟨j8, hj8, hap⟩ := hT.app (nx + 1) 8 1 [.int .i64 (i : Nat)] (by omega) rfl rfl (by simp only [maxB]; omega)
    simp (disch := first | omega | (intro _; simp only [upd_app, Nat.reduceEqDiff, if_false])) only [go_sem, ↓IntWalk.iteOmega, IntWalk.toNatUp, Nat.reduceEqDiff, Nat.reduceAdd, Nat.reduceMul, Nat.reduceSub, Nat.reduceLT, Nat.reduceLeDiff, Int.reduceToNat, Int.reduceLT, Int.reduceLE, Int.reduceEq, Int.reduceAdd, Int.reduceSub, Int.reduceMul, Int.toNat_natCast, reduceCtorEq, decide_true, decide_false, IntWalk.i64_in, IntWalk.u64_in, IntWalk.u8_in, h3, h9, h10, h11, h12, o9, hap]
    refine ⟨n - (i + 1), by omega, i + 1, _, by omega, rfl, ?_, rfl, rfl⟩
    rw [List.range_succ, nL_app, cI_app]
    exact HS.grown (m := 1) (new := [.int .i64 (i : Nat)]) (by omega) (by simp [upd_app]) hdl rfl
  have hie : i = n := by omega
  subst hie
  rcases hT with ⟨_, h0, _⟩ | ⟨iT, gT, rfl, hiT, hrT, _⟩
  · omega
  simp (disch := omega) only [go_sem, ↓IntWalk.iteOmega, IntWalk.toNatUp, Nat.reduceEqDiff, Nat.reduceAdd, Nat.reduceMul, Nat.reduceSub, Nat.reduceLT, Nat.reduceLeDiff, Int.reduceToNat, Int.reduceLT, Int.reduceLE, Int.reduceEq, Int.reduceAdd, Int.reduceSub, Int.reduceMul, Int.toNat_natCast, reduceCtorEq, decide_true, decide_false, IntWalk.i64_in, IntWalk.u64_in, IntWalk.u8_in, h3, h9, h10, h11, h12]
  refine WP_loop (fun mm a o nx => ∃ (q : Nat) (t : List Nat), q ≤ 20 ∧ mm = 20 - q ∧ 3 ≤ nx ∧ iT < nx ∧ PermL i t ∧ t.getD 0 0 = 0 ∧ o (iT, 36) = some (.row ⟨3, 1, gT, false, true, cI (nL t)⟩) ∧ a 3 = slI order ∧ a 9 = .ptr (2, 9) (2, 9) 0 ∧ a 10 = .int .i64 i ∧ a 11 = .ref (iT, 36) gT 0 i ∧ a 13 = .int .i64 q ∧ o (2, 9) = some (.row ⟨27, 1, (2, 9), false, true, [.sl i (cI N), .sl i (cB A)]⟩)) 20 (by omega) ⟨0, List.range i, by omega, by omega, by omega, by omega, PermL.range i, ?_, hrT, by simp (disch := omega) only [go_sem, ↓IntWalk.iteOmega, IntWalk.toNatUp, Nat.reduceEqDiff, Nat.reduceAdd, Nat.reduceMul, Nat.reduceSub, Nat.reduceLT, Nat.reduceLeDiff, Int.reduceToNat, Int.reduceLT, Int.reduceLE, Int.reduceEq, Int.reduceAdd, Int.reduceSub, Int.reduceMul, Int.toNat_natCast, reduceCtorEq, decide_true, decide_false, IntWalk.i64_in, IntWalk.u64_in, IntWalk.u8_in, h3], by simp (disch := omega) only [go_sem, ↓IntWalk.iteOmega, IntWalk.toNatUp, Nat.reduceEqDiff, Nat.reduceAdd, Nat.reduceMul, Nat.reduceSub, Nat.reduceLT, Nat.reduceLeDiff, Int.reduceToNat, Int.reduceLT, Int.reduceLE, Int.reduceEq, Int.reduceAdd, Int.reduceSub, Int.reduceMul, Int.toNat_natCast, reduceCtorEq, decide_true, decide_false, IntWalk.i64_in, IntWalk.u64_in, IntWalk.u8_in, h9], by simp (disch := omega) only [go_sem, ↓IntWalk.iteOmega, IntWalk.toNatUp, Nat.reduceEqDiff, Nat.reduceAdd, Nat.reduceMul, Nat.reduceSub, Nat.reduceLT, Nat.reduceLeDiff, Int.reduceToNat, Int.reduceLT, Int.reduceLE, Int.reduceEq, Int.reduceAdd, Int.reduceSub, Int.reduceMul, Int.toNat_natCast, reduceCtorEq, decide_true, decide_false, IntWalk.i64_in, IntWalk.u64_in, IntWalk.u8_in, h10], by simp (disch := omega) only [go_sem, ↓IntWalk.iteOmega, IntWalk.toNatUp, Nat.reduceEqDiff, Nat.reduceAdd, Nat.reduceMul, Nat.reduceSub, Nat.reduceLT, Nat.reduceLeDiff, Int.reduceToNat, Int.reduceLT, Int.reduceLE, Int.reduceEq, Int.reduceAdd, Int.reduceSub, Int.reduceMul, Int.toNat_natCast, reduceCtorEq, decide_true, decide_false, IntWalk.i64_in, IntWalk.u64_in, IntWalk.u8_in, h11], by simp (disch := omega) only [go_sem, ↓IntWalk.iteOmega, IntWalk.toNatUp, Nat.reduceEqDiff, Nat.reduceAdd, Nat.reduceMul, Nat.reduceSub, Nat.reduceLT, Nat.reduceLeDiff, Int.reduceToNat, Int.reduceLT, Int.reduceLE, Int.reduceEq, Int.reduceAdd, Int.reduceSub, Int.reduceMul, Int.toNat_natCast, reduceCtorEq, decide_true, decide_false, IntWalk.i64_in, IntWalk.u64_in, IntWalk.u8_in], o9⟩ ?_
  · obtain ⟨d, hd⟩ : ∃ d, i = d + 1 := ⟨i - 1, by omega⟩
    rw [hd, List.range_succ_eq_map]
    rfl
  clear h3 h9 h10 h11 h12 o9 hrT hnx hlt hi hiT
  rintro mm a o nx ⟨q, t, hq, rfl, hnx, hiT, hP, ht0, oT, h3, h9, h10, h11, h13, o9⟩
  have htl := hP.len
  by_cases hgo : (q : Int) < order.length ∧ (q : Int) < 20 ∧ (1 : Int) < i
  · obtain ⟨c1, c2, c3⟩ := hgo
    have hg := cI_get (l := order) (i := q) (s := 1) (by omega)
    generalize order.getD q 0 = x at hg
    have hwi := XM0_within x ((i : Int) - 1) (by omega) (by omega)
    have e1 := Int.emod_nonneg x (show ((i : Int) - 1) ≠ 0 by omega)
    have e2 := Int.emod_lt_of_pos x (show (0 : Int) < (i : Int) - 1 by omega)
    obtain ⟨b, hb⟩ : ∃ b : Nat, x % ((i : Int) - 1) = b := ⟨(x % ((i : Int) - 1)).toNat, by omega⟩
    rw [hb] at hwi e1 e2
    obtain ⟨c, hc, hc2⟩ : ∃ c : Nat, Int.tmod (q : Int) ((i : Int) - 1) = c ∧ c < i - 1 := ⟨q % (i - 1), by
      rw [Int.tmod_eq_emod_of_nonneg (by omega), show (i : Int) - 1 = ((i - 1 : Nat) : Int) by omega]
      rfl, Nat.mod_lt _ (by omega)⟩
    have ga := nL_at (l := t) (i := 1 + c) (s := 1) (by omega)
    have gb := nL_at (l := t) (i := 1 + b) (s := 1) (by omega)
    have hsw := swap_cells (t := t) (a := 1 + c) (b := 1 + b) (by omega) (by omega)
    have k1 : (1 + (c : Int)).toNat = 1 + c := by omega
    have k2 : (1 + (b : Int)).toNat = 1 + b := by omega
    have hl := cI_length (nL t)
    rw [nL_len, htl] at hl
    have hl2 : ∀ v, (splice (cI (nL t)) (1 + c) [.int .i64 v]).length = i := fun v => by rw [cI_set _ _ _ (by rw [nL_len]; omega), cI_length, List.length_set, nL_len, htl]
    have hn1 : ¬ ((i : Int) - 1 = 0) := by omega
    simp (disch := omega) only [go_sem, ↓IntWalk.iteOmega, IntWalk.toNatUp, Nat.reduceEqDiff, Nat.reduceAdd, Nat.reduceMul, Nat.reduceSub, Nat.reduceLT, Nat.reduceLeDiff, Int.reduceToNat, Int.reduceLT, Int.reduceLE, Int.reduceEq, Int.reduceAdd, Int.reduceSub, Int.reduceMul, Int.toNat_natCast, reduceCtorEq, decide_true, decide_false, IntWalk.i64_in, IntWalk.u64_in, IntWalk.u8_in, h3, h9, h10, h11, h13, o9, oT, c1, c2, c3, hg, hwi, hc, ga, gb, hsw, k1, k2, hl, hl2, hn1, nzMN]
    refine ⟨20 - (q + 1), by omega, q + 1, swapL t (1 + c) (1 + b), by omega, rfl, hP.swap (by omega) (by omega), ?_, rfl, rfl⟩
    have hsg := swapL_get (t := t) (a := 1 + c) (b := 1 + b) (by omega) (by omega) 0
    rw [if_neg (by omega), if_neg (by omega), hP.get (by omega), ht0] at hsg
    exact getD_of hsg
  · have tail := fun (a : AAct) (nx' : Nat) (hn3 : 3 ≤ nx') (hn4 : iT < nx') => mnum_tail (a := a) (nx := nx') hw (by omega) hP ht0 hn3 hn4 oT o9
    rw [← hpath] at tail
    by_cases c1 : (q : Int) < order.length
    · by_cases c2 : (q : Int) < 20
      · have c3 : ¬ (1 : Int) < i := fun h => hgo ⟨c1, c2, h⟩
        simp (disch := omega) only [go_sem, ↓IntWalk.iteOmega, IntWalk.toNatUp, Nat.reduceEqDiff, Nat.reduceAdd, Nat.reduceMul, Nat.reduceSub, Nat.reduceLT, Nat.reduceLeDiff, Int.reduceToNat, Int.reduceLT, Int.reduceLE, Int.reduceEq, Int.reduceAdd, Int.reduceSub, Int.reduceMul, Int.toNat_natCast, reduceCtorEq, decide_true, decide_false, IntWalk.i64_in, IntWalk.u64_in, IntWalk.u8_in, h3, h9, h10, h11, h13, o9, oT, c1, c2, c3]
        exact tail _ _ (by omega) (by omega) (by simp (disch := omega) only [go_sem, ↓IntWalk.iteOmega, IntWalk.toNatUp, Nat.reduceEqDiff, Nat.reduceAdd, Nat.reduceMul, Nat.reduceSub, Nat.reduceLT, Nat.reduceLeDiff, Int.reduceToNat, Int.reduceLT, Int.reduceLE, Int.reduceEq, Int.reduceAdd, Int.reduceSub, Int.reduceMul, Int.toNat_natCast, reduceCtorEq, decide_true, decide_false, IntWalk.i64_in, IntWalk.u64_in, IntWalk.u8_in, h9]) (by simp (disch := omega) only [go_sem, ↓IntWalk.iteOmega, IntWalk.toNatUp, Nat.reduceEqDiff, Nat.reduceAdd, Nat.reduceMul, Nat.reduceSub, Nat.reduceLT, Nat.reduceLeDiff, Int.reduceToNat, Int.reduceLT, Int.reduceLE, Int.reduceEq, Int.reduceAdd, Int.reduceSub, Int.reduceMul, Int.toNat_natCast, reduceCtorEq, decide_true, decide_false, IntWalk.i64_in, IntWalk.u64_in, IntWalk.u8_in, h10]) (by simp (disch := omega) only [go_sem, ↓IntWalk.iteOmega, IntWalk.toNatUp, Nat.reduceEqDiff, Nat.reduceAdd, Nat.reduceMul, Nat.reduceSub, Nat.reduceLT, Nat.reduceLeDiff, Int.reduceToNat, Int.reduceLT, Int.reduceLE, Int.reduceEq, Int.reduceAdd, Int.reduceSub, Int.reduceMul, Int.toNat_natCast, reduceCtorEq, decide_true, decide_false, IntWalk.i64_in, IntWalk.u64_in, IntWalk.u8_in, h11])
      · simp (disch := omega) only [go_sem, ↓IntWalk.iteOmega, IntWalk.toNatUp, Nat.reduceEqDiff, Nat.reduceAdd, Nat.reduceMul, Nat.reduceSub, Nat.reduceLT, Nat.reduceLeDiff, Int.reduceToNat, Int.reduceLT, Int.reduceLE, Int.reduceEq, Int.reduceAdd, Int.reduceSub, Int.reduceMul, Int.toNat_natCast, reduceCtorEq, decide_true, decide_false, IntWalk.i64_in, IntWalk.u64_in, IntWalk.u8_in, h3, h9, h10, h11, h13, o9, oT, c1, c2]
        exact tail _ _ (by omega) (by omega) (by simp (disch := omega) only [go_sem, ↓IntWalk.iteOmega, IntWalk.toNatUp, Nat.reduceEqDiff, Nat.reduceAdd, Nat.reduceMul, Nat.reduceSub, Nat.reduceLT, Nat.reduceLeDiff, Int.reduceToNat, Int.reduceLT, Int.reduceLE, Int.reduceEq, Int.reduceAdd, Int.reduceSub, Int.reduceMul, Int.toNat_natCast, reduceCtorEq, decide_true, decide_false, IntWalk.i64_in, IntWalk.u64_in, IntWalk.u8_in, h9]) (by simp (disch := omega) only [go_sem, ↓IntWalk.iteOmega, IntWalk.toNatUp, Nat.reduceEqDiff, Nat.reduceAdd, Nat.reduceMul, Nat.reduceSub, Nat.reduceLT, Nat.reduceLeDiff, Int.reduceToNat, Int.reduceLT, Int.reduceLE, Int.reduceEq, Int.reduceAdd, Int.reduceSub, Int.reduceMul, Int.toNat_natCast, reduceCtorEq, decide_true, decide_false, IntWalk.i64_in, IntWalk.u64_in, IntWalk.u8_in, h10]) (by simp (disch := omega) only [go_sem, ↓IntWalk.iteOmega, IntWalk.toNatUp, Nat.reduceEqDiff, Nat.reduceAdd, Nat.reduceMul, Nat.reduceSub, Nat.reduceLT, Nat.reduceLeDiff, Int.reduceToNat, Int.reduceLT, Int.reduceLE, Int.reduceEq, Int.reduceAdd, Int.reduceSub, Int.reduceMul, Int.toNat_natCast, reduceCtorEq, decide_true, decide_false, IntWalk.i64_in, IntWalk.u64_in, IntWalk.u8_in, h11])
    · simp (disch := omega) only [go_sem, ↓IntWalk.iteOmega, IntWalk.toNatUp, Nat.reduceEqDiff, Nat.reduceAdd, Nat.reduceMul, Nat.reduceSub, Nat.reduceLT, Nat.reduceLeDiff, Int.reduceToNat, Int.reduceLT, Int.reduceLE, Int.reduceEq, Int.reduceAdd, Int.reduceSub, Int.reduceMul, Int.toNat_natCast, reduceCtorEq, decide_true, decide_false, IntWalk.i64_in, IntWalk.u64_in, IntWalk.u8_in, h3, h9, h10, h11, h13, o9, oT, c1]
      exact tail _ _ (by omega) (by omega) (by simp (disch := omega) only [go_sem, ↓IntWalk.iteOmega, IntWalk.toNatUp, Nat.reduceEqDiff, Nat.reduceAdd, Nat.reduceMul, Nat.reduceSub, Nat.reduceLT, Nat.reduceLeDiff, Int.reduceToNat, Int.reduceLT, Int.reduceLE, Int.reduceEq, Int.reduceAdd, Int.reduceSub, Int.reduceMul, Int.toNat_natCast, reduceCtorEq, decide_true, decide_false, IntWalk.i64_in, IntWalk.u64_in, IntWalk.u8_in, h9]) (by simp (disch := omega) only [go_sem, ↓IntWalk.iteOmega, IntWalk.toNatUp, Nat.reduceEqDiff, Nat.reduceAdd, Nat.reduceMul, Nat.reduceSub, Nat.reduceLT, Nat.reduceLeDiff, Int.reduceToNat, Int.reduceLT, Int.reduceLE, Int.reduceEq, Int.reduceAdd, Int.reduceSub, Int.reduceMul, Int.toNat_natCast, reduceCtorEq, decide_true, decide_false, IntWalk.i64_in, IntWalk.u64_in, IntWalk.u8_in, h10]) (by simp (disch := omega) only [go_sem, ↓IntWalk.iteOmega, IntWalk.toNatUp, Nat.reduceEqDiff, Nat.reduceAdd, Nat.reduceMul, Nat.reduceSub, Nat.reduceLT, Nat.reduceLeDiff, Int.reduceToNat, Int.reduceLT, Int.reduceLE, Int.reduceEq, Int.reduceAdd, Int.reduceSub, Int.reduceMul, Int.toNat_natCast, reduceCtorEq, decide_true, decide_false, IntWalk.i64_in, IntWalk.u64_in, IntWalk.u8_in, h11])
theorem mnum_ok (size : Int) (ns : List Int) (acc : Int) (order : List Int) : Ok Tryd.prog 8 [.int .i64 size, slI ns, .int .i64 acc, slI order] (.bool true) := by
  refine ok_of_WP (E := EX md0 XM0) (cr := noR) XM0_ok (noR_ok _) mixed (k := 25) Tryd.func8 lookMNu rfl (WP_mono (mnum_wp size ns acc order) ?_)
  rintro u a o nx ⟨h, hv⟩
  refine ⟨h, ?_⟩
  simp only [Tryd.f8]
  simp (disch := omega) only [go_sem, ↓IntWalk.iteOmega, IntWalk.toNatUp, Nat.reduceEqDiff, Nat.reduceAdd, Nat.reduceMul, Nat.reduceSub, Nat.reduceLT, Nat.reduceLeDiff, Int.reduceToNat, Int.reduceLT, Int.reduceLE, Int.reduceEq, Int.reduceAdd, Int.reduceSub, Int.reduceMul, Int.toNat_natCast, reduceCtorEq, decide_true, decide_false, IntWalk.i64_in, IntWalk.u64_in, IntWalk.u8_in]
  exact hv
end Go.Proofs.YtpmjpogcaglphaaDoor.A

namespace Go.Proofs.YtpmjpogcaglphaaDoor
open Go Go.Proofs.YtpmjpogcaglphaaDoor.A
set_option maxRecDepth 100000 in
theorem miniNumbers_lifted (os : Os) (started : os.Started) (H : Type) (enc : TypeId × Value → H) :
    ReturnsInHanded {} Tryd.checked os 8 .any (fun w args => (Rows.miniNumbersSpec.pre enc Tryd.prog Tryd.f8 [] false w args ∧ laidMetH Tryd.prog laidL w) ∧ sizedMet enc Tryd.prog Tryd.f8 (OpenSpec.ofChange Rows.miniNumbersSpec) false w args) (Rows.miniNumbersSpec.post enc Tryd.prog Tryd.f8 false true false false) :=
  law_laid (C := Tryd.checked) (L := laidL) laidL_noh Tryd.own started (by kernel_rfl) Tryd.func8
    (ChangeSpec.witness_at (enc := enc) (C := Tryd.checked) (os := os) (X := fun w _ => laidMetH Tryd.prog laidL w) false (laidWorld os) #[.int .i64 0, .slice none 0 0, .int .i64 0, .slice none 0 0] 8 rfl (by kernel_rfl) (by kernel_rfl) (by kernel_rfl) (by kernel_rfl) (by kernel_rfl) (laidWorld_met os _))
    Tryd.laidOut (ks := [3, 22]) (by kernel_rfl) (by kernel_rfl) (tb := 4) (by kernel_rfl) (by kernel_rfl) rfl
    (fun ds hds => by
      match ds, hds with
      | [_, _, _, _], _ => exact ⟨rfl, rfl, rfl⟩)
    laid_gl (fun xs hxs => by
      rw [show Tryd.f8.params.toList = [3, 22, 3, 22] from rfl] at hxs
      match xs, hxs with
      | [x1, x2, x3, x4], ⟨h1, h2, h3, h4, _⟩ =>
        obtain ⟨n1, rfl, _⟩ := arg_int (k := .i64) (by kernel_rfl) h1
        obtain ⟨n2, rfl, _⟩ := arg_ints (e := 3) (by kernel_rfl) (by kernel_rfl) h2
        obtain ⟨n3, rfl, _⟩ := arg_int (k := .i64) (by kernel_rfl) h3
        obtain ⟨n4, rfl, _⟩ := arg_ints (e := 3) (by kernel_rfl) (by kernel_rfl) h4
        exact mnum_ok n1 n2 n3 n4)
theorem miniNumbers_row_holds : Rows.MiniNumbersSaid :=
  OpenClaim.holds_of_wide 8 Tryd.f8 rfl rfl rfl rfl rfl rfl rfl ⟨rfl, rfl, rfl, rfl, rfl⟩ rfl rfl rfl rfl rfl (by kernel_rfl) Tryd.func8 (by kernel_rfl)
    (of_decide_eq_true (by kernel_rfl)) (by unfold Func.isWrapper; first | (rw [if_pos (by decide +kernel)]; kernel_rfl) | (rw [if_neg (by decide +kernel)]; exact ⟨rfl, rfl⟩))
    (fun os started H enc _ => miniNumbers_lifted os started H enc)
theorem miniNumbers_card_holds : Rows.MiniNumbersCardSaid :=
  Claim7.holds_tied_plain_at .later [] [.data, .data, .data] true (true, "102ca1f5da5c52998f5edfe949f841430b613cce0079492f5bc01c543bb3a885") false
    miniNumbers_row_holds (fun _ h => by cases h) (by kernel_rfl) (fun _ h => by cases h) miniNumbers_row_tie rfl ⟨rfl, rfl⟩ (by kernel_rfl) rfl
    (fun f fn hf hfn => by
      obtain rfl : f = 8 := (Option.some.inj ((show Tryd.prog.funcNamed "milestone/milestonelaw8.MiniNumbers" = some 8 by kernel_rfl).symm.trans hf)).symm
      obtain rfl : fn = Tryd.f8 := (Option.some.inj (Tryd.func8.symm.trans hfn)).symm
      refine ⟨by kernel_rfl, fun j t ht => ?_⟩
      exact (wants_all (by kernel_rfl : (Tryd.f8.params.toList.all fun t => !Tryd.prog.wantsStandIn t) = true) ht))
    (by kernel_rfl)
end Go.Proofs.YtpmjpogcaglphaaDoor
