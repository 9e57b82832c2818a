/- MiniTakes answers true for whatever it is called with; the input reads as it did. -/
import Derived.Test.YtpmjpogcaglphaaDoorME91
import Derived.Test.YtpmjpogcaglphaaDoorME92
import Derived.Test.YtpmjpogcaglphaaDoorME93
import Derived.Test.YtpmjpogcaglphaaDoorME94
import Derived.Test.YtpmjpogcaglphaaDoorME95
import Derived.Test.YtpmjpogcaglphaaDoorME96
import Derived.Test.YtpmjpogcaglphaaDoorME97
import Derived.Test.YtpmjpogcaglphaaDoorME98
import Derived.Test.YtpmjpogcaglphaaDoorME99
import Derived.Test.YtpmjpogcaglphaaDoorME141
set_option linter.unusedVariables false
set_option linter.unusedSimpArgs false
set_option linter.unnecessarySimpa false
/- A, part 35: footprints of guarded operations. -/
namespace Go.Proofs.YtpmjpogcaglphaaDoor.A
open Go
def fG (y : Option (Option Bool)) (want : Bool) (fp : FP) : FP := match y with
  | some (some b) => if b = want then fp else FP.none_
  | _ => FP.none_
@[go_sem] theorem ft_guard (E : Env) (st : Nat) (ops : Array Oper) (d op ty p af j want a H) : foot E st ops ⟨d, op, ty, p, af, some (j, want)⟩ a H = fG (yieldedA ops a j) want (foot E st ops ⟨d, op, ty, p, af, none⟩ a H) := by
  unfold fG
  cases hy : yieldedA ops a j with
  | none => unfold foot wantedA; simp only [hy, Option.map_none]; rfl
  | some y =>
    cases y with
    | none => unfold foot wantedA; simp only [hy, Option.map_some]; rfl
    | some b =>
      unfold foot wantedA
      simp only [hy, Option.map_some]
      cases b <;> cases want <;> rfl
@[go_sem] theorem fG_none (w fp) : fG (some none) w fp = FP.none_ := rfl
@[go_sem] theorem fG_tt (fp) : fG (some (some true)) true fp = fp := rfl
@[go_sem] theorem fG_ft (fp) : fG (some (some false)) true fp = FP.none_ := rfl
@[go_sem] theorem fG_tf (fp) : fG (some (some true)) false fp = FP.none_ := rfl
@[go_sem] theorem fG_ff (fp) : fG (some (some false)) false fp = fp := rfl
@[go_sem] theorem fG_decide (p : Prop) [Decidable p] (w fp) : fG (some (some (decide p))) w fp = fG (some (some (if p then true else false))) w fp := by
  by_cases h : p <;> simp [h]
end Go.Proofs.YtpmjpogcaglphaaDoor.A
namespace Go.Proofs.YtpmjpogcaglphaaDoor.A
open Go
set_option maxRecDepth 20000
def nzMT : Nat → Option (List (Nat × Nat))
  | 5 => some [(20, 21)]
  | 22 => some [(2, 3)]
  | _ => none
theorem lookMTk : lookedAt (EX md0 XM1) nzMT 4 Tryd.f9 = true := by kernel_rfl
set_option maxHeartbeats 4000000 in
theorem mtk_ok (size : Int) (ns : List Int) (acc : Int) (ws : List Int) : Ok Tryd.prog 9 [.int .i64 size, slI ns, .int .i64 acc, slI ws] (.bool true) := by
  refine ok_of_WP (E := EX md0 XM1) (cr := noR) XM1_ok (noR_ok _) mixed (k := 20) Tryd.func9 lookMTk rfl ?_
  have hw := wf7 size ns acc
  have hkn := XM1_known
  have hmk := XM1_make size ns acc
  have hsz := size7_in size
  generalize hn : size7 size = n at *
  have eN : N7 size ns acc = next7 n ns acc n := by rw [N7, hn]
  have eA : A7 size acc = accs7 acc n := by rw [A7, hn]
  rw [eN, eA] at hmk
  generalize next7 n ns acc n = N at *
  generalize accs7 acc n = A at *
  have hO := hw.okD
  have hA := hw.a
  have hm := min_wf hw
  have hle := min_le hO
  rw [hA] at hle
  have hmO := min_okD hO
  have heq := min_eqv hO
  have hag := min_again hO
  have hap := fun i j h1 h2 h3 => min_apart hO (i := i) (j := j) h1 h2 h3
  have x1 := XM1_min hw
  have x2 := XM1_min hm
  rw [hag.1, hag.2] at x2
  have x3 := XM1_chk hm
  have x4 := XM1_same hm hm
  rw [decide_eq_true ⟨rfl, rfl⟩] at x4
  have x5 := XM1_far hw hm
  rw [(far_none hO hmO).2 heq] at x5
  have x5 : XM1 33 [dV n N A, dV (minA N A).length (minN N A) (minA N A)] = some (.tup [.sl 0 [], .bool false]) := x5
  have hrun := fun w hl => XM1_run hw w hl
  have hrun2 := fun w hl => XM1_run hm w hl
  have hre := fun w => run_eqv hw hm heq w
  have hfr := fun s hs => XM1_from hm (s := s) hs
  have hfw := fun s hs => from_wf hm (s := s) hs
  have hfe := fun s hs => from_eqv hmO (s := s) hs
  clear hag
  generalize minN N A = M at *
  generalize minA N A = B at *
  generalize hk : B.length = k at *
  simp only [Tryd.f9, Option.getD_some]
  have c1 : ¬ (k : Int) < 1 := by omega
  have c2 : ¬ (n : Int) < k := by omega
  simp (disch := omega) only [go_sem, ↓IntWalk.iteOmega, IntWalk.toNatUp, Nat.reduceEqDiff, Nat.reduceAdd, Nat.reduceMul, Nat.reduceSub, Nat.reduceLT, Nat.reduceLeDiff, Int.reduceToNat, Int.reduceLT, Int.reduceLE, Int.reduceEq, Int.reduceAdd, Int.reduceSub, Int.reduceMul, Int.toNat_natCast, reduceCtorEq, decide_true, decide_false, IntWalk.i64_in, IntWalk.u64_in, IntWalk.u8_in, nzMT, hkn, hmk, x1, x2, x3, x4, c1, c2, Bool.not_true]
  refine WP_loop (fun mm a o nx => ∃ i : Nat, i ≤ 11 ∧ mm = 11 - i ∧ 4 ≤ nx ∧ a 3 = slI ws ∧ a 9 = .ptr (2, 9) (2, 9) 0 ∧ a 10 = .ptr (3, 10) (3, 10) 0 ∧ a 11 = .int .i64 i ∧ o (2, 9) = some (.row ⟨27, 1, (2, 9), false, true, [.sl n (cI N), .sl n (cB A)]⟩) ∧ o (3, 10) = some (.row ⟨27, 1, (3, 10), false, true, [.sl k (cI M), .sl k (cB B)]⟩)) 11 (by omega)
    ⟨0, by omega, by omega, by omega, by simp (disch := omega) only [go_sem, ↓IntWalk.iteOmega, IntWalk.toNatUp, Nat.reduceEqDiff, Nat.reduceAdd, Nat.reduceMul, Nat.reduceSub, Nat.reduceLT, Nat.reduceLeDiff, Int.reduceToNat, Int.reduceLT, Int.reduceLE, Int.reduceEq, Int.reduceAdd, Int.reduceSub, Int.reduceMul, Int.toNat_natCast, reduceCtorEq, decide_true, decide_false, IntWalk.i64_in, IntWalk.u64_in, IntWalk.u8_in], by simp (disch := omega) only [go_sem, ↓IntWalk.iteOmega, IntWalk.toNatUp, Nat.reduceEqDiff, Nat.reduceAdd, Nat.reduceMul, Nat.reduceSub, Nat.reduceLT, Nat.reduceLeDiff, Int.reduceToNat, Int.reduceLT, Int.reduceLE, Int.reduceEq, Int.reduceAdd, Int.reduceSub, Int.reduceMul, Int.toNat_natCast, reduceCtorEq, decide_true, decide_false, IntWalk.i64_in, IntWalk.u64_in, IntWalk.u8_in], by simp (disch := omega) only [go_sem, ↓IntWalk.iteOmega, IntWalk.toNatUp, Nat.reduceEqDiff, Nat.reduceAdd, Nat.reduceMul, Nat.reduceSub, Nat.reduceLT, Nat.reduceLeDiff, Int.reduceToNat, Int.reduceLT, Int.reduceLE, Int.reduceEq, Int.reduceAdd, Int.reduceSub, Int.reduceMul, Int.toNat_natCast, reduceCtorEq, decide_true, decide_false, IntWalk.i64_in, IntWalk.u64_in, IntWalk.u8_in], by simp (disch := omega) only [go_sem, ↓IntWalk.iteOmega, IntWalk.toNatUp, Nat.reduceEqDiff, Nat.reduceAdd, Nat.reduceMul, Nat.reduceSub, Nat.reduceLT, Nat.reduceLeDiff, Int.reduceToNat, Int.reduceLT, Int.reduceLE, Int.reduceEq, Int.reduceAdd, Int.reduceSub, Int.reduceMul, Int.toNat_natCast, reduceCtorEq, decide_true, decide_false, IntWalk.i64_in, IntWalk.u64_in, IntWalk.u8_in], by simp (disch := omega) only [go_sem, ↓IntWalk.iteOmega, IntWalk.toNatUp, Nat.reduceEqDiff, Nat.reduceAdd, Nat.reduceMul, Nat.reduceSub, Nat.reduceLT, Nat.reduceLeDiff, Int.reduceToNat, Int.reduceLT, Int.reduceLE, Int.reduceEq, Int.reduceAdd, Int.reduceSub, Int.reduceMul, Int.toNat_natCast, reduceCtorEq, decide_true, decide_false, IntWalk.i64_in, IntWalk.u64_in, IntWalk.u8_in], by simp (disch := omega) only [go_sem, ↓IntWalk.iteOmega, IntWalk.toNatUp, Nat.reduceEqDiff, Nat.reduceAdd, Nat.reduceMul, Nat.reduceSub, Nat.reduceLT, Nat.reduceLeDiff, Int.reduceToNat, Int.reduceLT, Int.reduceLE, Int.reduceEq, Int.reduceAdd, Int.reduceSub, Int.reduceMul, Int.toNat_natCast, reduceCtorEq, decide_true, decide_false, IntWalk.i64_in, IntWalk.u64_in, IntWalk.u8_in]⟩ ?_
  rintro mm a o nx ⟨i, hi, rfl, hnx, h3, h9, h10, h11, o9, o10⟩
  by_cases hlt : i < 11
  · have hwd := XM1_word ws i 4 (by omega)
    have hwl := wordOf_le ws i 4
    generalize wordOf ws i 4 = w at *
    have r1 := hrun w (by omega)
    have r2 := hrun2 w (by omega)
    rw [← hre w] at r2
    have hbe : (runD n N A w == runD n N A w) = true := beq_self_eq_true _
    generalize runD n N A w = z at *
    have hi10 : (i : Int) ≤ 10 := by omega
    simp (disch := omega) only [go_sem, ↓IntWalk.iteOmega, IntWalk.toNatUp, Nat.reduceEqDiff, Nat.reduceAdd, Nat.reduceMul, Nat.reduceSub, Nat.reduceLT, Nat.reduceLeDiff, Int.reduceToNat, Int.reduceLT, Int.reduceLE, Int.reduceEq, Int.reduceAdd, Int.reduceSub, Int.reduceMul, Int.toNat_natCast, reduceCtorEq, decide_true, decide_false, IntWalk.i64_in, IntWalk.u64_in, IntWalk.u8_in, nzMT, h3, h9, h10, h11, o9, o10, hwd, r1, r2, hbe, hi10, Bool.not_true]
    exact ⟨11 - (i + 1), by omega, i + 1, by omega, rfl, rfl⟩
  have hi10 : ¬ (i : Int) ≤ 10 := by omega
  simp (disch := omega) only [go_sem, ↓IntWalk.iteOmega, IntWalk.toNatUp, Nat.reduceEqDiff, Nat.reduceAdd, Nat.reduceMul, Nat.reduceSub, Nat.reduceLT, Nat.reduceLeDiff, Int.reduceToNat, Int.reduceLT, Int.reduceLE, Int.reduceEq, Int.reduceAdd, Int.reduceSub, Int.reduceMul, Int.toNat_natCast, reduceCtorEq, decide_true, decide_false, IntWalk.i64_in, IntWalk.u64_in, IntWalk.u8_in, nzMT, h3, h9, h10, h11, o9, o10, hi10, x5]
  clear h3 h11
  refine WP_loop (fun mm a o nx => ∃ i : Nat, i ≤ k ∧ mm = k - i ∧ 4 ≤ nx ∧ a 10 = .ptr (3, 10) (3, 10) 0 ∧ a 15 = .int .i64 i ∧ o (3, 10) = some (.row ⟨27, 1, (3, 10), false, true, [.sl k (cI M), .sl k (cB B)]⟩)) k (by omega)
    ⟨0, by omega, by omega, by omega, by simp (disch := omega) only [go_sem, ↓IntWalk.iteOmega, IntWalk.toNatUp, Nat.reduceEqDiff, Nat.reduceAdd, Nat.reduceMul, Nat.reduceSub, Nat.reduceLT, Nat.reduceLeDiff, Int.reduceToNat, Int.reduceLT, Int.reduceLE, Int.reduceEq, Int.reduceAdd, Int.reduceSub, Int.reduceMul, Int.toNat_natCast, reduceCtorEq, decide_true, decide_false, IntWalk.i64_in, IntWalk.u64_in, IntWalk.u8_in, h10], by simp (disch := omega) only [go_sem, ↓IntWalk.iteOmega, IntWalk.toNatUp, Nat.reduceEqDiff, Nat.reduceAdd, Nat.reduceMul, Nat.reduceSub, Nat.reduceLT, Nat.reduceLeDiff, Int.reduceToNat, Int.reduceLT, Int.reduceLE, Int.reduceEq, Int.reduceAdd, Int.reduceSub, Int.reduceMul, Int.toNat_natCast, reduceCtorEq, decide_true, decide_false, IntWalk.i64_in, IntWalk.u64_in, IntWalk.u8_in], by simp (disch := omega) only [go_sem, ↓IntWalk.iteOmega, IntWalk.toNatUp, Nat.reduceEqDiff, Nat.reduceAdd, Nat.reduceMul, Nat.reduceSub, Nat.reduceLT, Nat.reduceLeDiff, Int.reduceToNat, Int.reduceLT, Int.reduceLE, Int.reduceEq, Int.reduceAdd, Int.reduceSub, Int.reduceMul, Int.toNat_natCast, reduceCtorEq, decide_true, decide_false, IntWalk.i64_in, IntWalk.u64_in, IntWalk.u8_in, o10]⟩ ?_
  clear h9 h10 o9 o10 hi10 hlt hi hnx
  rintro mm a o nx ⟨i, hi, rfl, hnx, h10, h15, o10⟩
  by_cases hlt : i < k
  · simp (disch := omega) only [go_sem, ↓IntWalk.iteOmega, IntWalk.toNatUp, Nat.reduceEqDiff, Nat.reduceAdd, Nat.reduceMul, Nat.reduceSub, Nat.reduceLT, Nat.reduceLeDiff, Int.reduceToNat, Int.reduceLT, Int.reduceLE, Int.reduceEq, Int.reduceAdd, Int.reduceSub, Int.reduceMul, Int.toNat_natCast, reduceCtorEq, decide_true, decide_false, IntWalk.i64_in, IntWalk.u64_in, IntWalk.u8_in, nzMT, h10, h15, o10]
    refine WP_loop (fun mm a o nx => ∃ j : Nat, j ≤ i ∧ mm = i - j ∧ 4 ≤ nx ∧ a 10 = .ptr (3, 10) (3, 10) 0 ∧ a 15 = .int .i64 i ∧ a 16 = .int .i64 j ∧ o (3, 10) = some (.row ⟨27, 1, (3, 10), false, true, [.sl k (cI M), .sl k (cB B)]⟩)) i (by omega)
      ⟨0, by omega, by omega, by omega, by simp (disch := omega) only [go_sem, ↓IntWalk.iteOmega, IntWalk.toNatUp, Nat.reduceEqDiff, Nat.reduceAdd, Nat.reduceMul, Nat.reduceSub, Nat.reduceLT, Nat.reduceLeDiff, Int.reduceToNat, Int.reduceLT, Int.reduceLE, Int.reduceEq, Int.reduceAdd, Int.reduceSub, Int.reduceMul, Int.toNat_natCast, reduceCtorEq, decide_true, decide_false, IntWalk.i64_in, IntWalk.u64_in, IntWalk.u8_in, h10], by simp (disch := omega) only [go_sem, ↓IntWalk.iteOmega, IntWalk.toNatUp, Nat.reduceEqDiff, Nat.reduceAdd, Nat.reduceMul, Nat.reduceSub, Nat.reduceLT, Nat.reduceLeDiff, Int.reduceToNat, Int.reduceLT, Int.reduceLE, Int.reduceEq, Int.reduceAdd, Int.reduceSub, Int.reduceMul, Int.toNat_natCast, reduceCtorEq, decide_true, decide_false, IntWalk.i64_in, IntWalk.u64_in, IntWalk.u8_in, h15], by simp (disch := omega) only [go_sem, ↓IntWalk.iteOmega, IntWalk.toNatUp, Nat.reduceEqDiff, Nat.reduceAdd, Nat.reduceMul, Nat.reduceSub, Nat.reduceLT, Nat.reduceLeDiff, Int.reduceToNat, Int.reduceLT, Int.reduceLE, Int.reduceEq, Int.reduceAdd, Int.reduceSub, Int.reduceMul, Int.toNat_natCast, reduceCtorEq, decide_true, decide_false, IntWalk.i64_in, IntWalk.u64_in, IntWalk.u8_in], by simp (disch := omega) only [go_sem, ↓IntWalk.iteOmega, IntWalk.toNatUp, Nat.reduceEqDiff, Nat.reduceAdd, Nat.reduceMul, Nat.reduceSub, Nat.reduceLT, Nat.reduceLeDiff, Int.reduceToNat, Int.reduceLT, Int.reduceLE, Int.reduceEq, Int.reduceAdd, Int.reduceSub, Int.reduceMul, Int.toNat_natCast, reduceCtorEq, decide_true, decide_false, IntWalk.i64_in, IntWalk.u64_in, IntWalk.u8_in, o10]⟩ ?_
    clear h10 h15 o10 hnx
    rintro mm a o nx ⟨j, hj, rfl, hnx, h10, h15, h16, o10⟩
    by_cases hji : j < i
    · have f1 := hfr i hlt
      have f2 := hfr j (by omega)
      have w1 := hfw i hlt
      have w2 := hfw j (by omega)
      have x6 := XM1_rfar w1 w2
      have hne : farM (fromN M k i) (fromA B i) (fromN M k j) (fromA B j) ≠ none := fun e => by
        have e := (far_none w1.okD w2.okD).1 e
        have := hap i j hlt (by omega) (((hfe i hlt).trans e).trans (hfe j (by omega)).symm)
        omega
      cases hf : farM (fromN M k i) (fromA B i) (fromN M k j) (fromA B j) with
      | none => exact absurd hf hne
      | some w =>
        rw [hf] at x6
        have x6 : XM1 26 [dV k (fromN M k i) (fromA B i), dV k (fromN M k j) (fromA B j)] = some (.tup [slI (nL w), .bool true]) := x6
        simp (disch := omega) only [go_sem, ↓IntWalk.iteOmega, IntWalk.toNatUp, Nat.reduceEqDiff, Nat.reduceAdd, Nat.reduceMul, Nat.reduceSub, Nat.reduceLT, Nat.reduceLeDiff, Int.reduceToNat, Int.reduceLT, Int.reduceLE, Int.reduceEq, Int.reduceAdd, Int.reduceSub, Int.reduceMul, Int.toNat_natCast, reduceCtorEq, decide_true, decide_false, IntWalk.i64_in, IntWalk.u64_in, IntWalk.u8_in, nzMT, h10, h15, h16, o10, f1, f2, x6, Bool.not_true]
        exact ⟨i - (j + 1), by omega, j + 1, by omega, rfl, rfl⟩
    · simp (disch := omega) only [go_sem, ↓IntWalk.iteOmega, IntWalk.toNatUp, Nat.reduceEqDiff, Nat.reduceAdd, Nat.reduceMul, Nat.reduceSub, Nat.reduceLT, Nat.reduceLeDiff, Int.reduceToNat, Int.reduceLT, Int.reduceLE, Int.reduceEq, Int.reduceAdd, Int.reduceSub, Int.reduceMul, Int.toNat_natCast, reduceCtorEq, decide_true, decide_false, IntWalk.i64_in, IntWalk.u64_in, IntWalk.u8_in, nzMT, h10, h15, h16, o10]
      exact ⟨k - (i + 1), by omega, i + 1, by omega, rfl, by omega, rfl⟩
  · simp (disch := omega) only [go_sem, ↓IntWalk.iteOmega, IntWalk.toNatUp, Nat.reduceEqDiff, Nat.reduceAdd, Nat.reduceMul, Nat.reduceSub, Nat.reduceLT, Nat.reduceLeDiff, Int.reduceToNat, Int.reduceLT, Int.reduceLE, Int.reduceEq, Int.reduceAdd, Int.reduceSub, Int.reduceMul, Int.toNat_natCast, reduceCtorEq, decide_true, decide_false, IntWalk.i64_in, IntWalk.u64_in, IntWalk.u8_in, nzMT, h10, h15, o10]
end Go.Proofs.YtpmjpogcaglphaaDoor.A

namespace Go.Proofs.YtpmjpogcaglphaaDoor
open Go Go.Proofs.YtpmjpogcaglphaaDoor.A
set_option maxRecDepth 100000 in
theorem miniTakes_lifted (os : Os) (started : os.Started) (H : Type) (enc : TypeId × Value → H) :
    ReturnsInHanded {} Tryd.checked os 9 .any (fun w args => (Rows.miniTakesSpec.pre enc Tryd.prog Tryd.f9 [] false w args ∧ laidMetH Tryd.prog laidL w) ∧ sizedMet enc Tryd.prog Tryd.f9 (OpenSpec.ofChange Rows.miniTakesSpec) false w args) (Rows.miniTakesSpec.post enc Tryd.prog Tryd.f9 false true false false) :=
  law_laid (C := Tryd.checked) (L := laidL) laidL_noh Tryd.own started (by kernel_rfl) Tryd.func9
    (ChangeSpec.witness_at (enc := enc) (C := Tryd.checked) (os := os) (X := fun w _ => laidMetH Tryd.prog laidL w) false (laidWorld os) #[.int .i64 0, .slice none 0 0, .int .i64 0, .slice none 0 0] 8 rfl (by kernel_rfl) (by kernel_rfl) (by kernel_rfl) (by kernel_rfl) (by kernel_rfl) (laidWorld_met os _))
    Tryd.laidOut (ks := [3, 22]) (by kernel_rfl) (by kernel_rfl) (tb := 4) (by kernel_rfl) (by kernel_rfl) rfl
    (fun ds hds => by
      match ds, hds with
      | [_, _, _, _], _ => exact ⟨rfl, rfl, rfl⟩)
    laid_gl (fun xs hxs => by
      rw [show Tryd.f9.params.toList = [3, 22, 3, 22] from rfl] at hxs
      match xs, hxs with
      | [x1, x2, x3, x4], ⟨h1, h2, h3, h4, _⟩ =>
        obtain ⟨n1, rfl, _⟩ := arg_int (k := .i64) (by kernel_rfl) h1
        obtain ⟨n2, rfl, _⟩ := arg_ints (e := 3) (by kernel_rfl) (by kernel_rfl) h2
        obtain ⟨n3, rfl, _⟩ := arg_int (k := .i64) (by kernel_rfl) h3
        obtain ⟨n4, rfl, _⟩ := arg_ints (e := 3) (by kernel_rfl) (by kernel_rfl) h4
        exact mtk_ok n1 n2 n3 n4)
theorem miniTakes_row_holds : Rows.MiniTakesSaid :=
  OpenClaim.holds_of_wide 9 Tryd.f9 rfl rfl rfl rfl rfl rfl rfl ⟨rfl, rfl, rfl, rfl, rfl⟩ rfl rfl rfl rfl rfl (by kernel_rfl) Tryd.func9 (by kernel_rfl)
    (of_decide_eq_true (by kernel_rfl)) (by unfold Func.isWrapper; first | (rw [if_pos (by decide +kernel)]; kernel_rfl) | (rw [if_neg (by decide +kernel)]; exact ⟨rfl, rfl⟩))
    (fun os started H enc _ => miniTakes_lifted os started H enc)
theorem miniTakes_card_holds : Rows.MiniTakesCardSaid :=
  Claim7.holds_tied_plain_at .later [] [.data, .data, .data] true (true, "102ca1f5da5c52998f5edfe949f841430b613cce0079492f5bc01c543bb3a885") false
    miniTakes_row_holds (fun _ h => by cases h) (by kernel_rfl) (fun _ h => by cases h) miniTakes_row_tie rfl ⟨rfl, rfl⟩ (by kernel_rfl) rfl
    (fun f fn hf hfn => by
      obtain rfl : f = 9 := (Option.some.inj ((show Tryd.prog.funcNamed "milestone/milestonelaw8.MiniTakes" = some 9 by kernel_rfl).symm.trans hf)).symm
      obtain rfl : fn = Tryd.f9 := (Option.some.inj (Tryd.func9.symm.trans hfn)).symm
      refine ⟨by kernel_rfl, fun j t ht => ?_⟩
      exact (wants_all (by kernel_rfl : (Tryd.f9.params.toList.all fun t => !Tryd.prog.wantsStandIn t) = true) ht))
    (by kernel_rfl)
end Go.Proofs.YtpmjpogcaglphaaDoor
