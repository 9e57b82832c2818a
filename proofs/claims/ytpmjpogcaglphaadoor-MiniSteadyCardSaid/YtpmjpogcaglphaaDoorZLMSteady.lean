/- MiniSteady answers true for whatever it is called with; the input reads as it did. -/
import Derived.Test.YtpmjpogcaglphaaDoorME91
import Derived.Test.YtpmjpogcaglphaaDoorME92
import Derived.Test.YtpmjpogcaglphaaDoorME93
import Derived.Test.YtpmjpogcaglphaaDoorME94
import Derived.Test.YtpmjpogcaglphaaDoorME95
import Derived.Test.YtpmjpogcaglphaaDoorME96
import Derived.Test.YtpmjpogcaglphaaDoorME97
import Derived.Test.YtpmjpogcaglphaaDoorME98
import Derived.Test.YtpmjpogcaglphaaDoorME99
set_option linter.unusedVariables false
set_option linter.unusedSimpArgs false
set_option linter.unnecessarySimpa false
namespace Go.Proofs.YtpmjpogcaglphaaDoor.A
open Go
set_option maxRecDepth 20000
def nzMS : Nat → Option (List (Nat × Nat))
  | 12 => some [(0, 3), (3, 5), (0, 9), (3, 9), (4, 9), (5, 9)]
  | _ => none
theorem lookMSt : lookedAt (EX md0 XM0) nzMS 4 Tryd.f7 = true := by kernel_rfl
theorem go_one {n N A} (h : WfD n N A) {s m : Nat} (hs : s < n) (hm : m < 5) : goFull n N s [(m : Int)] = N.getD (s * 5 + m) 0 := by
  unfold goFull
  rw [if_pos (by omega), goD, if_neg (by omega), goD]
  simp
theorem go_two {n N A} (h : WfD n N A) {s m : Nat} (hs : s < n) (hm : m < 5) : goFull n N s [(m : Int), (m : Int)] = N.getD ((N.getD (s * 5 + m) 0).toNat * 5 + m) 0 := by
  unfold goFull
  rw [if_pos (by omega), goD, if_neg (by omega), goD, if_neg (by omega), goD]
  simp
theorem dup_snoc (w : List Int) (x : Int) : dup (w ++ [x]) = dup w ++ [x, x] := by simp [dup]
theorem dup_len (w : List Int) : (dup w).length = w.length * 2 := by
  induction w with
  | nil => rfl
  | cons x w ih => rw [dup, List.flatMap_cons, List.length_append, List.length_cons]; unfold dup at ih; rw [ih]; simp; omega
theorem mst8_ok (size : Int) (ns : List Int) (acc : Int) (ws : List Int) : Ok Tryd.prog 7 [.int .i64 size, slI ns, .int .i64 acc, slI ws] (.bool true) := by
  refine ok_of_WP (E := EX md0 XM0) (cr := noR) XM0_ok (noR_ok _) mixed (k := 20) Tryd.func7 lookMSt rfl ?_
  have hw := wf7 size ns acc
  have hkn := XM0_known
  have hmk := XM0_make size ns acc
  have hsz := size7_in size
  generalize hn : size7 size = n at *
  have eN : N7 size ns acc = next7 n ns acc n := by rw [N7, hn]
  have eA : A7 size acc = accs7 acc n := by rw [A7, hn]
  rw [eN, eA] at hmk
  generalize next7 n ns acc n = N at *
  generalize accs7 acc n = A at *
  have hst := XM0_st hw
  simp only [Tryd.f7, Option.getD_some]
  cases hs : steadyM n N with
  | false =>
    rw [hs] at hst
    simp (disch := omega) only [go_sem, ↓IntWalk.iteOmega, IntWalk.toNatUp, Nat.reduceEqDiff, Nat.reduceAdd, Nat.reduceMul, Nat.reduceSub, Nat.reduceLT, Nat.reduceLeDiff, Int.reduceToNat, Int.reduceLT, Int.reduceLE, Int.reduceEq, Int.reduceAdd, Int.reduceSub, Int.reduceMul, Int.toNat_natCast, reduceCtorEq, decide_true, decide_false, IntWalk.i64_in, IntWalk.u64_in, IntWalk.u8_in, hkn, hmk, hst, nzMS]
    refine WP_loop (fun mm a o nx => ∃ i : Nat, i ≤ n ∧ mm = n - i ∧ 3 ≤ nx ∧ (∀ s m, s < i → m < 5 → N.getD ((N.getD (s * 5 + m) 0).toNat * 5 + m) 0 = N.getD (s * 5 + m) 0) ∧ a 9 = .ptr (2, 9) (2, 9) 0 ∧ a 11 = .int .i64 i ∧ o (2, 9) = some (.row ⟨27, 1, (2, 9), false, true, [.sl n (cI N), .sl n (cB A)]⟩)) n (by omega) ⟨0, by omega, by omega, by omega, fun s m h => by omega, by simp (disch := omega) only [go_sem, ↓IntWalk.iteOmega, IntWalk.toNatUp, Nat.reduceEqDiff, Nat.reduceAdd, Nat.reduceMul, Nat.reduceSub, Nat.reduceLT, Nat.reduceLeDiff, Int.reduceToNat, Int.reduceLT, Int.reduceLE, Int.reduceEq, Int.reduceAdd, Int.reduceSub, Int.reduceMul, Int.toNat_natCast, reduceCtorEq, decide_true, decide_false, IntWalk.i64_in, IntWalk.u64_in, IntWalk.u8_in], by simp (disch := omega) only [go_sem, ↓IntWalk.iteOmega, IntWalk.toNatUp, Nat.reduceEqDiff, Nat.reduceAdd, Nat.reduceMul, Nat.reduceSub, Nat.reduceLT, Nat.reduceLeDiff, Int.reduceToNat, Int.reduceLT, Int.reduceLE, Int.reduceEq, Int.reduceAdd, Int.reduceSub, Int.reduceMul, Int.toNat_natCast, reduceCtorEq, decide_true, decide_false, IntWalk.i64_in, IntWalk.u64_in, IntWalk.u8_in], by simp [upd_app]⟩ ?_
    rintro mm a o nx ⟨i, hi, rfl, hnx, hall, h9, h11, o9⟩
    by_cases hlt : i < n
    · simp (disch := omega) only [go_sem, ↓IntWalk.iteOmega, IntWalk.toNatUp, Nat.reduceEqDiff, Nat.reduceAdd, Nat.reduceMul, Nat.reduceSub, Nat.reduceLT, Nat.reduceLeDiff, Int.reduceToNat, Int.reduceLT, Int.reduceLE, Int.reduceEq, Int.reduceAdd, Int.reduceSub, Int.reduceMul, Int.toNat_natCast, reduceCtorEq, decide_true, decide_false, IntWalk.i64_in, IntWalk.u64_in, IntWalk.u8_in, h9, h11, o9]
      refine WP_loop (fun mm a o nx => ∃ j : Nat, j ≤ 5 ∧ mm = 5 - j ∧ 3 ≤ nx ∧ (∀ m, m < j → N.getD ((N.getD (i * 5 + m) 0).toNat * 5 + m) 0 = N.getD (i * 5 + m) 0) ∧ a 9 = .ptr (2, 9) (2, 9) 0 ∧ a 11 = .int .i64 i ∧ a 12 = .int .i64 j ∧ o (2, 9) = some (.row ⟨27, 1, (2, 9), false, true, [.sl n (cI N), .sl n (cB A)]⟩)) 5 (by omega) ⟨0, by omega, by omega, by omega, fun m h => by omega, by simp (disch := omega) only [go_sem, ↓IntWalk.iteOmega, IntWalk.toNatUp, Nat.reduceEqDiff, Nat.reduceAdd, Nat.reduceMul, Nat.reduceSub, Nat.reduceLT, Nat.reduceLeDiff, Int.reduceToNat, Int.reduceLT, Int.reduceLE, Int.reduceEq, Int.reduceAdd, Int.reduceSub, Int.reduceMul, Int.toNat_natCast, reduceCtorEq, decide_true, decide_false, IntWalk.i64_in, IntWalk.u64_in, IntWalk.u8_in, h9], by simp (disch := omega) only [go_sem, ↓IntWalk.iteOmega, IntWalk.toNatUp, Nat.reduceEqDiff, Nat.reduceAdd, Nat.reduceMul, Nat.reduceSub, Nat.reduceLT, Nat.reduceLeDiff, Int.reduceToNat, Int.reduceLT, Int.reduceLE, Int.reduceEq, Int.reduceAdd, Int.reduceSub, Int.reduceMul, Int.toNat_natCast, reduceCtorEq, decide_true, decide_false, IntWalk.i64_in, IntWalk.u64_in, IntWalk.u8_in, h11], by simp (disch := omega) only [go_sem, ↓IntWalk.iteOmega, IntWalk.toNatUp, Nat.reduceEqDiff, Nat.reduceAdd, Nat.reduceMul, Nat.reduceSub, Nat.reduceLT, Nat.reduceLeDiff, Int.reduceToNat, Int.reduceLT, Int.reduceLE, Int.reduceEq, Int.reduceAdd, Int.reduceSub, Int.reduceMul, Int.toNat_natCast, reduceCtorEq, decide_true, decide_false, IntWalk.i64_in, IntWalk.u64_in, IntWalk.u8_in], by simp (disch := omega) only [go_sem, ↓IntWalk.iteOmega, IntWalk.toNatUp, Nat.reduceEqDiff, Nat.reduceAdd, Nat.reduceMul, Nat.reduceSub, Nat.reduceLT, Nat.reduceLeDiff, Int.reduceToNat, Int.reduceLT, Int.reduceLE, Int.reduceEq, Int.reduceAdd, Int.reduceSub, Int.reduceMul, Int.toNat_natCast, reduceCtorEq, decide_true, decide_false, IntWalk.i64_in, IntWalk.u64_in, IntWalk.u8_in, o9]⟩ ?_
      clear h9 h11 o9 hnx
      rintro mm a o nx ⟨j, hj, rfl, hnx, hrow, h9, h11, h12, o9⟩
      by_cases hj5 : j < 5
      · have g1 := XM0_go hw i [(j : Int)] (by simp)
        have g2 := XM0_go hw i [(j : Int), (j : Int)] (by simp)
        rw [go_one hw hlt hj5] at g1
        rw [go_two hw hlt hj5] at g2
        have g1 : XM0 31 [dV n N A, .int .i64 i, .sl 1 [.int .i64 j]] = _ := g1
        have g2 : XM0 31 [dV n N A, .int .i64 i, .sl 2 [.int .i64 j, .int .i64 j]] = _ := g2
        by_cases he : N.getD ((N.getD (i * 5 + j) 0).toNat * 5 + j) 0 = N.getD (i * 5 + j) 0
        · rw [he] at g2
          have hrow' : ∀ m, m < j + 1 → N.getD ((N.getD (i * 5 + m) 0).toNat * 5 + m) 0 = N.getD (i * 5 + m) 0 := fun m hm => by
            by_cases hmj : m = j
            · rw [hmj]; exact he
            · exact hrow m (by omega)
          generalize N.getD (i * 5 + j) 0 = x at *
          simp (disch := omega) only [go_sem, ↓IntWalk.iteOmega, IntWalk.toNatUp, Nat.reduceEqDiff, Nat.reduceAdd, Nat.reduceMul, Nat.reduceSub, Nat.reduceLT, Nat.reduceLeDiff, Int.reduceToNat, Int.reduceLT, Int.reduceLE, Int.reduceEq, Int.reduceAdd, Int.reduceSub, Int.reduceMul, Int.toNat_natCast, reduceCtorEq, decide_true, decide_false, IntWalk.i64_in, IntWalk.u64_in, IntWalk.u8_in, h9, h11, h12, o9, g1, g2, nzMS]
          exact ⟨_, by omega, j + 1, by omega, rfl, hrow', rfl⟩
        · generalize N.getD ((N.getD (i * 5 + j) 0).toNat * 5 + j) 0 = y at *
          generalize N.getD (i * 5 + j) 0 = x at *
          have he' : ¬ x = y := fun e => he e.symm
          simp (disch := omega) only [go_sem, ↓IntWalk.iteOmega, IntWalk.toNatUp, Nat.reduceEqDiff, Nat.reduceAdd, Nat.reduceMul, Nat.reduceSub, Nat.reduceLT, Nat.reduceLeDiff, Int.reduceToNat, Int.reduceLT, Int.reduceLE, Int.reduceEq, Int.reduceAdd, Int.reduceSub, Int.reduceMul, Int.toNat_natCast, reduceCtorEq, decide_true, decide_false, IntWalk.i64_in, IntWalk.u64_in, IntWalk.u8_in, h9, h11, h12, o9, g1, g2, nzMS, he']
      · have hje : j = 5 := by omega
        subst hje
        simp (disch := omega) only [go_sem, ↓IntWalk.iteOmega, IntWalk.toNatUp, Nat.reduceEqDiff, Nat.reduceAdd, Nat.reduceMul, Nat.reduceSub, Nat.reduceLT, Nat.reduceLeDiff, Int.reduceToNat, Int.reduceLT, Int.reduceLE, Int.reduceEq, Int.reduceAdd, Int.reduceSub, Int.reduceMul, Int.toNat_natCast, reduceCtorEq, decide_true, decide_false, IntWalk.i64_in, IntWalk.u64_in, IntWalk.u8_in, h9, h11, h12, o9]
        refine ⟨_, by omega, i + 1, by omega, rfl, by omega, fun s m hs hm => ?_, rfl⟩
        by_cases hsi : s = i
        · rw [hsi]; exact hrow m hm
        · exact hall s m (by omega) hm
    · obtain ⟨s, m, h1, h2, h3⟩ := not_steady hs
      exact absurd (hall s m (by omega) h2) h3
  | true =>
    rw [hs] at hst
    have hwd := XM0_word ws 10 4 (by omega)
    have hwl := wordOf_le ws 10 4
    have hwx := wordOf_in ws 10
    generalize wordOf ws 10 4 = w at *
    have hwl : w.length ≤ 10 := hwl
    simp (disch := omega) only [go_sem, ↓IntWalk.iteOmega, IntWalk.toNatUp, Nat.reduceEqDiff, Nat.reduceAdd, Nat.reduceMul, Nat.reduceSub, Nat.reduceLT, Nat.reduceLeDiff, Int.reduceToNat, Int.reduceLT, Int.reduceLE, Int.reduceEq, Int.reduceAdd, Int.reduceSub, Int.reduceMul, Int.toNat_natCast, reduceCtorEq, decide_true, decide_false, IntWalk.i64_in, IntWalk.u64_in, IntWalk.u8_in, hkn, hmk, hst, nzMS, hwd]
    refine WP_loop (fun mm a o nx => ∃ (i : Nat) (vT : AV), i ≤ w.length ∧ mm = w.length - i ∧ 3 ≤ nx ∧ HS 3 1 67 o nx vT (i * 2) (cI (dup (w.take i))) ∧ a 9 = .ptr (2, 9) (2, 9) 0 ∧ a 13 = slI w ∧ a 14 = vT ∧ a 15 = .int .i64 i ∧ o (2, 9) = some (.row ⟨27, 1, (2, 9), false, true, [.sl n (cI N), .sl n (cB A)]⟩)) w.length (by omega) ⟨0, .nil, by omega, by omega, by omega, HS.nil, by simp (disch := omega) only [go_sem, ↓IntWalk.iteOmega, IntWalk.toNatUp, Nat.reduceEqDiff, Nat.reduceAdd, Nat.reduceMul, Nat.reduceSub, Nat.reduceLT, Nat.reduceLeDiff, Int.reduceToNat, Int.reduceLT, Int.reduceLE, Int.reduceEq, Int.reduceAdd, Int.reduceSub, Int.reduceMul, Int.toNat_natCast, reduceCtorEq, decide_true, decide_false, IntWalk.i64_in, IntWalk.u64_in, IntWalk.u8_in], by simp (disch := omega) only [go_sem, ↓IntWalk.iteOmega, IntWalk.toNatUp, Nat.reduceEqDiff, Nat.reduceAdd, Nat.reduceMul, Nat.reduceSub, Nat.reduceLT, Nat.reduceLeDiff, Int.reduceToNat, Int.reduceLT, Int.reduceLE, Int.reduceEq, Int.reduceAdd, Int.reduceSub, Int.reduceMul, Int.toNat_natCast, reduceCtorEq, decide_true, decide_false, IntWalk.i64_in, IntWalk.u64_in, IntWalk.u8_in], by simp (disch := omega) only [go_sem, ↓IntWalk.iteOmega, IntWalk.toNatUp, Nat.reduceEqDiff, Nat.reduceAdd, Nat.reduceMul, Nat.reduceSub, Nat.reduceLT, Nat.reduceLeDiff, Int.reduceToNat, Int.reduceLT, Int.reduceLE, Int.reduceEq, Int.reduceAdd, Int.reduceSub, Int.reduceMul, Int.toNat_natCast, reduceCtorEq, decide_true, decide_false, IntWalk.i64_in, IntWalk.u64_in, IntWalk.u8_in], by simp (disch := omega) only [go_sem, ↓IntWalk.iteOmega, IntWalk.toNatUp, Nat.reduceEqDiff, Nat.reduceAdd, Nat.reduceMul, Nat.reduceSub, Nat.reduceLT, Nat.reduceLeDiff, Int.reduceToNat, Int.reduceLT, Int.reduceLE, Int.reduceEq, Int.reduceAdd, Int.reduceSub, Int.reduceMul, Int.toNat_natCast, reduceCtorEq, decide_true, decide_false, IntWalk.i64_in, IntWalk.u64_in, IntWalk.u8_in], by simp [upd_app]⟩ ?_
    rintro mm a o nx ⟨i, vT, hi, rfl, hnx, hT, h9, h13, h14, h15, o9⟩
    by_cases hlt : i < w.length
    · have hat := cI_get (s := 1) hlt
      have htk := take_succ_getD hlt 0
      generalize w.getD i 0 = x at *
      have hdl : (cI (dup (w.take i))).length = i * 2 * 1 := by rw [cI_length, dup_len, List.length_take]; omega
      obtain ⟨j8, hj8, hap⟩ := hT.app (nx + 1) 8 2 [.int .i64 x, .int .i64 x] (by omega) rfl rfl (by simp only [maxB]; omega)
      simp (disch := first | omega | (intro _; simp only [upd_app, Nat.reduceEqDiff, if_false])) only [go_sem, ↓IntWalk.iteOmega, IntWalk.toNatUp, Nat.reduceEqDiff, Nat.reduceAdd, Nat.reduceMul, Nat.reduceSub, Nat.reduceLT, Nat.reduceLeDiff, Int.reduceToNat, Int.reduceLT, Int.reduceLE, Int.reduceEq, Int.reduceAdd, Int.reduceSub, Int.reduceMul, Int.toNat_natCast, reduceCtorEq, decide_true, decide_false, IntWalk.i64_in, IntWalk.u64_in, IntWalk.u8_in, nzMS, h9, h13, h14, h15, o9, hat, hap]
      refine ⟨w.length - (i + 1), by omega, i + 1, _, by omega, rfl, ?_, rfl, rfl⟩
      rw [htk, dup_snoc, cI_app, show (i + 1) * 2 = i * 2 + 2 by omega]
      exact HS.grown (m := 2) (new := [.int .i64 x, .int .i64 x]) (by omega) (by simp [upd_app]) hdl rfl
    · have hie : i = w.length := by omega
      subst hie
      rw [List.take_length] at hT
      have hv : ∀ o'' : Ob, (∀ i, o'' (i, 67) = o (i, 67)) → view o'' 1012 vT = .sl (w.length * 2) (cI (dup w)) := fun o'' h => by rw [(hT.keep (fun i _ => h i) (Nat.le_refl _)).view 1011, view_cI]
      have g1 := XM0_go hw 0 w (by omega)
      have g2 := XM0_go hw 0 (dup w) (by rw [dup_len]; omega)
      have he : goFull n N 0 (dup w) = goFull n N 0 w := by
        unfold goFull
        rw [go_dup hw hs w 0 hwx (by omega) (by omega)]
      rw [he, slI, dup_len] at g2
      generalize goFull n N 0 w = z at *
      simp (disch := first | omega | (intro _; simp only [upd_app, Nat.reduceEqDiff, if_false])) only [go_sem, ↓IntWalk.iteOmega, IntWalk.toNatUp, Nat.reduceEqDiff, Nat.reduceAdd, Nat.reduceMul, Nat.reduceSub, Nat.reduceLT, Nat.reduceLeDiff, Int.reduceToNat, Int.reduceLT, Int.reduceLE, Int.reduceEq, Int.reduceAdd, Int.reduceSub, Int.reduceMul, Int.toNat_natCast, reduceCtorEq, decide_true, decide_false, IntWalk.i64_in, IntWalk.u64_in, IntWalk.u8_in, nzMS, h9, h13, h14, h15, o9, g1, g2, hv]
end Go.Proofs.YtpmjpogcaglphaaDoor.A

namespace Go.Proofs.YtpmjpogcaglphaaDoor
open Go Go.Proofs.YtpmjpogcaglphaaDoor.A
set_option maxRecDepth 100000 in
theorem miniSteady_lifted (os : Os) (started : os.Started) (H : Type) (enc : TypeId × Value → H) :
    ReturnsInHanded {} Tryd.checked os 7 .any (fun w args => (Rows.miniSteadySpec.pre enc Tryd.prog Tryd.f7 [] false w args ∧ laidMetH Tryd.prog laidL w) ∧ sizedMet enc Tryd.prog Tryd.f7 (OpenSpec.ofChange Rows.miniSteadySpec) false w args) (Rows.miniSteadySpec.post enc Tryd.prog Tryd.f7 false true false false) :=
  law_laid (C := Tryd.checked) (L := laidL) laidL_noh Tryd.own started (by kernel_rfl) Tryd.func7
    (ChangeSpec.witness_at (enc := enc) (C := Tryd.checked) (os := os) (X := fun w _ => laidMetH Tryd.prog laidL w) false (laidWorld os) #[.int .i64 0, .slice none 0 0, .int .i64 0, .slice none 0 0] 8 rfl (by kernel_rfl) (by kernel_rfl) (by kernel_rfl) (by kernel_rfl) (by kernel_rfl) (laidWorld_met os _))
    Tryd.laidOut (ks := [3, 22]) (by kernel_rfl) (by kernel_rfl) (tb := 4) (by kernel_rfl) (by kernel_rfl) rfl
    (fun ds hds => by
      match ds, hds with
      | [_, _, _, _], _ => exact ⟨rfl, rfl, rfl⟩)
    laid_gl (fun xs hxs => by
      rw [show Tryd.f7.params.toList = [3, 22, 3, 22] from rfl] at hxs
      match xs, hxs with
      | [x1, x2, x3, x4], ⟨h1, h2, h3, h4, _⟩ =>
        obtain ⟨n1, rfl, _⟩ := arg_int (k := .i64) (by kernel_rfl) h1
        obtain ⟨n2, rfl, _⟩ := arg_ints (e := 3) (by kernel_rfl) (by kernel_rfl) h2
        obtain ⟨n3, rfl, _⟩ := arg_int (k := .i64) (by kernel_rfl) h3
        obtain ⟨n4, rfl, _⟩ := arg_ints (e := 3) (by kernel_rfl) (by kernel_rfl) h4
        exact mst8_ok n1 n2 n3 n4)
theorem miniSteady_row_holds : Rows.MiniSteadySaid :=
  OpenClaim.holds_of_wide 7 Tryd.f7 rfl rfl rfl rfl rfl rfl rfl ⟨rfl, rfl, rfl, rfl, rfl⟩ rfl rfl rfl rfl rfl (by kernel_rfl) Tryd.func7 (by kernel_rfl)
    (of_decide_eq_true (by kernel_rfl)) (by unfold Func.isWrapper; first | (rw [if_pos (by decide +kernel)]; kernel_rfl) | (rw [if_neg (by decide +kernel)]; exact ⟨rfl, rfl⟩))
    (fun os started H enc _ => miniSteady_lifted os started H enc)
theorem miniSteady_card_holds : Rows.MiniSteadyCardSaid :=
  Claim7.holds_tied_plain_at .later [] [.data, .data, .data] true (true, "102ca1f5da5c52998f5edfe949f841430b613cce0079492f5bc01c543bb3a885") false
    miniSteady_row_holds (fun _ h => by cases h) (by kernel_rfl) (fun _ h => by cases h) miniSteady_row_tie rfl ⟨rfl, rfl⟩ (by kernel_rfl) rfl
    (fun f fn hf hfn => by
      obtain rfl : f = 7 := (Option.some.inj ((show Tryd.prog.funcNamed "milestone/milestonelaw8.MiniSteady" = some 7 by kernel_rfl).symm.trans hf)).symm
      obtain rfl : fn = Tryd.f7 := (Option.some.inj (Tryd.func7.symm.trans hfn)).symm
      refine ⟨by kernel_rfl, fun j t ht => ?_⟩
      exact (wants_all (by kernel_rfl : (Tryd.f7.params.toList.all fun t => !Tryd.prog.wantsStandIn t) = true) ht))
    (by kernel_rfl)
end Go.Proofs.YtpmjpogcaglphaaDoor
