/- Whether a machine is allowed: the program's, the document's; few. -/
import Derived.Test.YtcaemgpificohaaC6
set_option linter.unusedVariables false
set_option linter.unusedSimpArgs false
set_option linter.unnecessarySimpa false
namespace Go.Proofs.Ytcaemgpificohaa.A
open Go
set_option maxRecDepth 20000
def okS' (N : Int) (p : Int × Int × Int) : Bool := decide ((0 ≤ p.1 ∧ p.1 < N) ∧ (0 ≤ p.2.1 ∧ p.2.1 < N) ∧ 1 ≤ p.2.2 ∧ p.2.2 ≤ 31)
def okF' (N : Int) (p : Int × Int) : Bool := decide ((0 ≤ p.1 ∧ p.1 < N) ∧ (0 ≤ p.2 ∧ p.2 < N))
def chk (N S F : Int) (ss : List (Int × Int × Int)) (fs : List (Int × Int)) : Bool := decide (1 ≤ N ∧ N ≤ 1000 ∧ ss.length ≤ 20000 ∧ fs.length ≤ 20000 ∧ (0 ≤ S ∧ S < N) ∧ (0 ≤ F ∧ F < N)) && (ss.all (okS' N) && fs.all (okF' N))
theorem lookState (X) : lookedAt (EX md0 X) (fun _ => none) 2 Try.f36 = true := by kernel_rfl
theorem state_ok (args r) (h : R42 args r) : Ok Try.prog 36 args r := by
  obtain ⟨N, S, F, s, ss, fs, rfl, rfl⟩ := h
  refine ok_of_WP (E := EX md0 (fun _ _ => none)) (cr := noR) (tab_nil _) (noR_ok _) mixed (k := 0) Try.func36 (lookState _) rfl ?_
  simp only [Try.f36, Option.getD_some]
  by_cases h : 0 ≤ s
  · simp (disch := omega) only [go_sem, ↓IntWalk.iteOmega, IntWalk.toNatUp, Nat.reduceEqDiff, Nat.reduceAdd, Nat.reduceMul, Nat.reduceSub, Nat.reduceLT, Nat.reduceLeDiff, Int.reduceToNat, Int.reduceLT, Int.reduceLE, Int.reduceEq, Int.reduceAdd, Int.reduceSub, Int.reduceMul, Int.toNat_natCast, reduceCtorEq, decide_true, decide_false, IntWalk.i64_in, IntWalk.u64_in, IntWalk.u8_in]
  · simp (disch := omega) only [go_sem, ↓IntWalk.iteOmega, IntWalk.toNatUp, Nat.reduceEqDiff, Nat.reduceAdd, Nat.reduceMul, Nat.reduceSub, Nat.reduceLT, Nat.reduceLeDiff, Int.reduceToNat, Int.reduceLT, Int.reduceLE, Int.reduceEq, Int.reduceAdd, Int.reduceSub, Int.reduceMul, Int.toNat_natCast, reduceCtorEq, decide_true, decide_false, IntWalk.i64_in, IntWalk.u64_in, IntWalk.u8_in]
    rw [decide_eq_false (by omega)]

theorem look_nfaCheck (X) : lookedAt (EX md0 X) (fun _ => none) 1 Try.f18 = true := by kernel_rfl
theorem nfaCheck_ok (N S F : Int) (ss : List (Int × Int × Int)) (fs : List (Int × Int)) : Ok Try.prog 18 [nfaV N S F ss fs] (.bool (chk N S F ss fs)) := by
  refine ok_of_WP (E := EX md0 (tabLook [(36, tRel R42)])) (cr := noR) (tab_cons (tab_nil _) (tRel_ok state_ok)) (noR_ok _) mixed (k := 20002) Try.func18 (look_nfaCheck _) rfl ?_
  have hin : ∀ s : Int, tabLook [(36, tRel R42)] 36 [nfaV N S F ss fs, .int .i64 s] = some (.bool (decide (0 ≤ s ∧ s < N))) := fun s => tRel_eq (R := R42) R42_fn ⟨N, S, F, s, ss, fs, rfl, rfl⟩
  simp only [Try.f18, Option.getD_some]
  by_cases hh : 1 ≤ N ∧ N ≤ 1000 ∧ ss.length ≤ 20000 ∧ fs.length ≤ 20000 ∧ (0 ≤ S ∧ S < N) ∧ (0 ≤ F ∧ F < N)
  · obtain ⟨c1, c2, c3, c4, ⟨c5, c6⟩, c7, c8⟩ := hh
    have hck : chk N S F ss fs = (ss.all (okS' N) && fs.all (okF' N)) := by
      unfold chk
      rw [decide_eq_true ⟨c1, c2, c3, c4, ⟨c5, c6⟩, c7, c8⟩, Bool.true_and]
    simp (disch := omega) only [go_sem, ↓IntWalk.iteOmega, IntWalk.toNatUp, Nat.reduceEqDiff, Nat.reduceAdd, Nat.reduceMul, Nat.reduceSub, Nat.reduceLT, Nat.reduceLeDiff, Int.reduceToNat, Int.reduceLT, Int.reduceLE, Int.reduceEq, Int.reduceAdd, Int.reduceSub, Int.reduceMul, Int.toNat_natCast, reduceCtorEq, decide_true, decide_false, IntWalk.i64_in, IntWalk.u64_in, IntWalk.u8_in, hin]
    refine WP_loop (fun m a o nx => ∃ i, i ≤ ss.length ∧ m = ss.length - i ∧ 1 ≤ nx ∧ a 1 = .ptr (0, 1) (0, 1) 0 ∧ a 42 = .sl ss.length (cS ss) ∧ a 43 = .int .i64 ss.length ∧ a 44 = .int .i64 i ∧ (ss.take i).all (okS' N) = true ∧
      o (0, 1) = some (.row ⟨28, 1, (0, 1), false, true, [.int .i64 N, .int .i64 S, .int .i64 F, .sl ss.length (cS ss), .sl fs.length (cP fs)]⟩)) ss.length ?_ ?_ ?_
    · omega
    · refine ⟨0, by omega, by omega, by omega, ?_⟩
      simp (disch := omega) only [go_sem, ↓IntWalk.iteOmega, IntWalk.toNatUp, Nat.reduceEqDiff, Nat.reduceAdd, Nat.reduceMul, Nat.reduceSub, Nat.reduceLT, Nat.reduceLeDiff, Int.reduceToNat, Int.reduceLT, Int.reduceLE, Int.reduceEq, Int.reduceAdd, Int.reduceSub, Int.reduceMul, Int.toNat_natCast, reduceCtorEq, decide_true, decide_false, IntWalk.i64_in, IntWalk.u64_in, IntWalk.u8_in, List.take_zero]
    · rintro m a o nx ⟨i, hi, rfl, hnx, h1, h42, h43, hi1, hall, ho1⟩
      by_cases hlt : i < ss.length
      · have hat := cS_at hlt
        have htk := take_succ_getD hlt (0, 0, 0)
        have hmem := getD_mem hlt (0, 0, 0)
        generalize ss.getD i (0, 0, 0) = p at hat htk hmem
        obtain ⟨f, t, set⟩ := p
        simp only at hat
        by_cases hp : (0 ≤ f ∧ f < N) ∧ (0 ≤ t ∧ t < N) ∧ 1 ≤ set ∧ set ≤ 31
        · obtain ⟨⟨p1, p2⟩, ⟨p3, p4⟩, p5, p6⟩ := hp
          simp (disch := omega) only [go_sem, ↓IntWalk.iteOmega, IntWalk.toNatUp, Nat.reduceEqDiff, Nat.reduceAdd, Nat.reduceMul, Nat.reduceSub, Nat.reduceLT, Nat.reduceLeDiff, Int.reduceToNat, Int.reduceLT, Int.reduceLE, Int.reduceEq, Int.reduceAdd, Int.reduceSub, Int.reduceMul, Int.toNat_natCast, reduceCtorEq, decide_true, decide_false, IntWalk.i64_in, IntWalk.u64_in, IntWalk.u8_in, h1, h42, h43, hi1, ho1, hat, hin]
          refine ⟨_, ?_, i + 1, by omega, rfl, rfl, ?_⟩
          · omega
          · rw [htk, List.all_append, hall]
            simp [okS', p1, p2, p3, p4, p5, p6]
        · have hck2 : chk N S F ss fs = false := by
            rw [hck, Bool.and_eq_false_iff]
            refine .inl (Bool.eq_false_iff.2 fun h => hp ?_)
            have := List.all_eq_true.1 h _ hmem
            simpa [okS'] using this
          rw [hck2]
          have hd : ¬ (0 ≤ f ∧ f < N) ∨ ((0 ≤ f ∧ f < N) ∧ ¬ (0 ≤ t ∧ t < N)) ∨ ((0 ≤ f ∧ f < N) ∧ (0 ≤ t ∧ t < N) ∧ set < 1) ∨ ((0 ≤ f ∧ f < N) ∧ (0 ≤ t ∧ t < N) ∧ 1 ≤ set ∧ 31 < set) := by omega
          rcases hd with d | ⟨d1, d2⟩ | ⟨d1, d2, d3⟩ | ⟨d1, d2, d3, d4⟩
          all_goals simp (disch := omega) only [go_sem, ↓IntWalk.iteOmega, IntWalk.toNatUp, Nat.reduceEqDiff, Nat.reduceAdd, Nat.reduceMul, Nat.reduceSub, Nat.reduceLT, Nat.reduceLeDiff, Int.reduceToNat, Int.reduceLT, Int.reduceLE, Int.reduceEq, Int.reduceAdd, Int.reduceSub, Int.reduceMul, Int.toNat_natCast, reduceCtorEq, decide_true, decide_false, IntWalk.i64_in, IntWalk.u64_in, IntWalk.u8_in, h1, h42, h43, hi1, ho1, hat, hin]
      · have hie : i = ss.length := by omega
        rw [hie, List.take_length] at hall
        simp (disch := omega) only [go_sem, ↓IntWalk.iteOmega, IntWalk.toNatUp, Nat.reduceEqDiff, Nat.reduceAdd, Nat.reduceMul, Nat.reduceSub, Nat.reduceLT, Nat.reduceLeDiff, Int.reduceToNat, Int.reduceLT, Int.reduceLE, Int.reduceEq, Int.reduceAdd, Int.reduceSub, Int.reduceMul, Int.toNat_natCast, reduceCtorEq, decide_true, decide_false, IntWalk.i64_in, IntWalk.u64_in, IntWalk.u8_in, h1, h42, h43, hi1, ho1]
        refine WP_loop (fun m a o nx => ∃ i, i ≤ fs.length ∧ m = fs.length - i ∧ 1 ≤ nx ∧ a 1 = .ptr (0, 1) (0, 1) 0 ∧ a 72 = .sl fs.length (cP fs) ∧ a 73 = .int .i64 fs.length ∧ a 74 = .int .i64 i ∧ (fs.take i).all (okF' N) = true ∧
          o (0, 1) = some (.row ⟨28, 1, (0, 1), false, true, [.int .i64 N, .int .i64 S, .int .i64 F, .sl ss.length (cS ss), .sl fs.length (cP fs)]⟩)) fs.length ?_ ?_ ?_
        · omega
        · refine ⟨0, by omega, by omega, by omega, ?_⟩
          simp (disch := omega) only [go_sem, ↓IntWalk.iteOmega, IntWalk.toNatUp, Nat.reduceEqDiff, Nat.reduceAdd, Nat.reduceMul, Nat.reduceSub, Nat.reduceLT, Nat.reduceLeDiff, Int.reduceToNat, Int.reduceLT, Int.reduceLE, Int.reduceEq, Int.reduceAdd, Int.reduceSub, Int.reduceMul, Int.toNat_natCast, reduceCtorEq, decide_true, decide_false, IntWalk.i64_in, IntWalk.u64_in, IntWalk.u8_in, h1, ho1, List.take_zero]
        · clear hi1 h1 ho1
          rintro m a o nx ⟨i, hi, rfl, hnx, h1, h42, h43, hi1, hall2, ho1⟩
          by_cases hlt : i < fs.length
          · have hat := cP_at hlt
            have htk := take_succ_getD hlt (0, 0)
            have hmem := getD_mem hlt (0, 0)
            generalize fs.getD i (0, 0) = p at hat htk hmem
            obtain ⟨f, t⟩ := p
            simp only at hat
            by_cases hp : (0 ≤ f ∧ f < N) ∧ (0 ≤ t ∧ t < N)
            · obtain ⟨⟨p1, p2⟩, p3, p4⟩ := hp
              simp (disch := omega) only [go_sem, ↓IntWalk.iteOmega, IntWalk.toNatUp, Nat.reduceEqDiff, Nat.reduceAdd, Nat.reduceMul, Nat.reduceSub, Nat.reduceLT, Nat.reduceLeDiff, Int.reduceToNat, Int.reduceLT, Int.reduceLE, Int.reduceEq, Int.reduceAdd, Int.reduceSub, Int.reduceMul, Int.toNat_natCast, reduceCtorEq, decide_true, decide_false, IntWalk.i64_in, IntWalk.u64_in, IntWalk.u8_in, h1, h42, h43, hi1, ho1, hat, hin]
              refine ⟨_, ?_, i + 1, by omega, rfl, rfl, ?_⟩
              · omega
              · rw [htk, List.all_append, hall2]
                simp [okF', p1, p2, p3, p4]
            · have hck2 : chk N S F ss fs = false := by
                rw [hck, Bool.and_eq_false_iff]
                refine .inr (Bool.eq_false_iff.2 fun h => hp ?_)
                have := List.all_eq_true.1 h _ hmem
                simpa [okF'] using this
              rw [hck2]
              have hd : ¬ (0 ≤ f ∧ f < N) ∨ ((0 ≤ f ∧ f < N) ∧ ¬ (0 ≤ t ∧ t < N)) := by omega
              rcases hd with d | ⟨d1, d2⟩
              all_goals simp (disch := omega) only [go_sem, ↓IntWalk.iteOmega, IntWalk.toNatUp, Nat.reduceEqDiff, Nat.reduceAdd, Nat.reduceMul, Nat.reduceSub, Nat.reduceLT, Nat.reduceLeDiff, Int.reduceToNat, Int.reduceLT, Int.reduceLE, Int.reduceEq, Int.reduceAdd, Int.reduceSub, Int.reduceMul, Int.toNat_natCast, reduceCtorEq, decide_true, decide_false, IntWalk.i64_in, IntWalk.u64_in, IntWalk.u8_in, h1, h42, h43, hi1, ho1, hat, hin]
          · have hie : i = fs.length := by omega
            rw [hie, List.take_length] at hall2
            rw [hck, hall, hall2]
            simp (disch := omega) only [go_sem, ↓IntWalk.iteOmega, IntWalk.toNatUp, Nat.reduceEqDiff, Nat.reduceAdd, Nat.reduceMul, Nat.reduceSub, Nat.reduceLT, Nat.reduceLeDiff, Int.reduceToNat, Int.reduceLT, Int.reduceLE, Int.reduceEq, Int.reduceAdd, Int.reduceSub, Int.reduceMul, Int.toNat_natCast, reduceCtorEq, decide_true, decide_false, IntWalk.i64_in, IntWalk.u64_in, IntWalk.u8_in, h1, h42, h43, hi1, ho1]
  · have hck : chk N S F ss fs = false := by
      unfold chk
      rw [decide_eq_false hh]; rfl
    rw [hck]
    have hd : N < 1 ∨ (1 ≤ N ∧ 1000 < N) ∨ (1 ≤ N ∧ N ≤ 1000 ∧ 20000 < ss.length) ∨ (1 ≤ N ∧ N ≤ 1000 ∧ ss.length ≤ 20000 ∧ 20000 < fs.length) ∨ (1 ≤ N ∧ N ≤ 1000 ∧ ss.length ≤ 20000 ∧ fs.length ≤ 20000 ∧ ¬ (0 ≤ S ∧ S < N)) ∨ (1 ≤ N ∧ N ≤ 1000 ∧ ss.length ≤ 20000 ∧ fs.length ≤ 20000 ∧ (0 ≤ S ∧ S < N) ∧ ¬ (0 ≤ F ∧ F < N)) := by omega
    rcases hd with d | ⟨d1, d2⟩ | ⟨d1, d2, d3⟩ | ⟨d1, d2, d3, d4⟩ | ⟨d1, d2, d3, d4, d5⟩ | ⟨d1, d2, d3, d4, d5, d6⟩
    all_goals simp (disch := omega) only [go_sem, ↓IntWalk.iteOmega, IntWalk.toNatUp, Nat.reduceEqDiff, Nat.reduceAdd, Nat.reduceMul, Nat.reduceSub, Nat.reduceLT, Nat.reduceLeDiff, Int.reduceToNat, Int.reduceLT, Int.reduceLE, Int.reduceEq, Int.reduceAdd, Int.reduceSub, Int.reduceMul, Int.toNat_natCast, reduceCtorEq, decide_true, decide_false, IntWalk.i64_in, IntWalk.u64_in, IntWalk.u8_in, hin]

theorem look_refCheck (X) : lookedAt (EX md0 X) (fun _ => none) 1 Try.f24 = true := by kernel_rfl
theorem refCheck_ok (N S F : Int) (ss : List (Int × Int × Int)) (fs : List (Int × Int)) : Ok Try.prog 24 [nfaV N S F ss fs] (.bool (chk N S F ss fs)) := by
  refine ok_of_WP (E := EX md0 (tabLook [(42, tRel R42)])) (cr := noR) (tab_cons (tab_nil _) (tRel_ok R42_ok)) (noR_ok _) mixed (k := 20002) Try.func24 (look_refCheck _) rfl ?_
  have hin : ∀ s : Int, tabLook [(42, tRel R42)] 42 [nfaV N S F ss fs, .int .i64 s] = some (.bool (decide (0 ≤ s ∧ s < N))) := fun s => tRel_eq (R := R42) R42_fn ⟨N, S, F, s, ss, fs, rfl, rfl⟩
  simp only [Try.f24, Option.getD_some]
  by_cases hh : 1 ≤ N ∧ N ≤ 1000 ∧ ss.length ≤ 20000 ∧ fs.length ≤ 20000 ∧ (0 ≤ S ∧ S < N) ∧ (0 ≤ F ∧ F < N)
  · obtain ⟨c1, c2, c3, c4, ⟨c5, c6⟩, c7, c8⟩ := hh
    have hck : chk N S F ss fs = (ss.all (okS' N) && fs.all (okF' N)) := by
      unfold chk
      rw [decide_eq_true ⟨c1, c2, c3, c4, ⟨c5, c6⟩, c7, c8⟩, Bool.true_and]
    simp (disch := omega) only [go_sem, ↓IntWalk.iteOmega, IntWalk.toNatUp, Nat.reduceEqDiff, Nat.reduceAdd, Nat.reduceMul, Nat.reduceSub, Nat.reduceLT, Nat.reduceLeDiff, Int.reduceToNat, Int.reduceLT, Int.reduceLE, Int.reduceEq, Int.reduceAdd, Int.reduceSub, Int.reduceMul, Int.toNat_natCast, reduceCtorEq, decide_true, decide_false, IntWalk.i64_in, IntWalk.u64_in, IntWalk.u8_in, hin]
    refine WP_loop (fun m a o nx => ∃ i, i ≤ ss.length ∧ m = ss.length - i ∧ 1 ≤ nx ∧ a 1 = .ptr (0, 1) (0, 1) 0 ∧  a 3 = .int .i64 i ∧ (ss.take i).all (okS' N) = true ∧
      o (0, 1) = some (.row ⟨28, 1, (0, 1), false, true, [.int .i64 N, .int .i64 S, .int .i64 F, .sl ss.length (cS ss), .sl fs.length (cP fs)]⟩)) ss.length ?_ ?_ ?_
    · omega
    · refine ⟨0, by omega, by omega, by omega, ?_⟩
      simp (disch := omega) only [go_sem, ↓IntWalk.iteOmega, IntWalk.toNatUp, Nat.reduceEqDiff, Nat.reduceAdd, Nat.reduceMul, Nat.reduceSub, Nat.reduceLT, Nat.reduceLeDiff, Int.reduceToNat, Int.reduceLT, Int.reduceLE, Int.reduceEq, Int.reduceAdd, Int.reduceSub, Int.reduceMul, Int.toNat_natCast, reduceCtorEq, decide_true, decide_false, IntWalk.i64_in, IntWalk.u64_in, IntWalk.u8_in, List.take_zero]
    · rintro m a o nx ⟨i, hi, rfl, hnx, h1,  hi1, hall, ho1⟩
      by_cases hlt : i < ss.length
      · have hat := cS_at hlt
        have htk := take_succ_getD hlt (0, 0, 0)
        have hmem := getD_mem hlt (0, 0, 0)
        generalize ss.getD i (0, 0, 0) = p at hat htk hmem
        obtain ⟨f, t, set⟩ := p
        simp only at hat
        by_cases hp : (0 ≤ f ∧ f < N) ∧ (0 ≤ t ∧ t < N) ∧ 1 ≤ set ∧ set ≤ 31
        · obtain ⟨⟨p1, p2⟩, ⟨p3, p4⟩, p5, p6⟩ := hp
          simp (disch := omega) only [go_sem, ↓IntWalk.iteOmega, IntWalk.toNatUp, Nat.reduceEqDiff, Nat.reduceAdd, Nat.reduceMul, Nat.reduceSub, Nat.reduceLT, Nat.reduceLeDiff, Int.reduceToNat, Int.reduceLT, Int.reduceLE, Int.reduceEq, Int.reduceAdd, Int.reduceSub, Int.reduceMul, Int.toNat_natCast, reduceCtorEq, decide_true, decide_false, IntWalk.i64_in, IntWalk.u64_in, IntWalk.u8_in, h1,  hi1, ho1, hat, hin]
          refine ⟨_, ?_, i + 1, by omega, rfl, rfl, ?_⟩
          · omega
          · rw [htk, List.all_append, hall]
            simp [okS', p1, p2, p3, p4, p5, p6]
        · have hck2 : chk N S F ss fs = false := by
            rw [hck, Bool.and_eq_false_iff]
            refine .inl (Bool.eq_false_iff.2 fun h => hp ?_)
            have := List.all_eq_true.1 h _ hmem
            simpa [okS'] using this
          rw [hck2]
          have hd : ¬ (0 ≤ f ∧ f < N) ∨ ((0 ≤ f ∧ f < N) ∧ ¬ (0 ≤ t ∧ t < N)) ∨ ((0 ≤ f ∧ f < N) ∧ (0 ≤ t ∧ t < N) ∧ set < 1) ∨ ((0 ≤ f ∧ f < N) ∧ (0 ≤ t ∧ t < N) ∧ 1 ≤ set ∧ 31 < set) := by omega
          rcases hd with d | ⟨d1, d2⟩ | ⟨d1, d2, d3⟩ | ⟨d1, d2, d3, d4⟩
          all_goals simp (disch := omega) only [go_sem, ↓IntWalk.iteOmega, IntWalk.toNatUp, Nat.reduceEqDiff, Nat.reduceAdd, Nat.reduceMul, Nat.reduceSub, Nat.reduceLT, Nat.reduceLeDiff, Int.reduceToNat, Int.reduceLT, Int.reduceLE, Int.reduceEq, Int.reduceAdd, Int.reduceSub, Int.reduceMul, Int.toNat_natCast, reduceCtorEq, decide_true, decide_false, IntWalk.i64_in, IntWalk.u64_in, IntWalk.u8_in, h1,  hi1, ho1, hat, hin]
      · have hie : i = ss.length := by omega
        rw [hie, List.take_length] at hall
        simp (disch := omega) only [go_sem, ↓IntWalk.iteOmega, IntWalk.toNatUp, Nat.reduceEqDiff, Nat.reduceAdd, Nat.reduceMul, Nat.reduceSub, Nat.reduceLT, Nat.reduceLeDiff, Int.reduceToNat, Int.reduceLT, Int.reduceLE, Int.reduceEq, Int.reduceAdd, Int.reduceSub, Int.reduceMul, Int.toNat_natCast, reduceCtorEq, decide_true, decide_false, IntWalk.i64_in, IntWalk.u64_in, IntWalk.u8_in, h1,  hi1, ho1]
        refine WP_loop (fun m a o nx => ∃ i, i ≤ fs.length ∧ m = fs.length - i ∧ 1 ≤ nx ∧ a 1 = .ptr (0, 1) (0, 1) 0 ∧  a 5 = .int .i64 i ∧ (fs.take i).all (okF' N) = true ∧
          o (0, 1) = some (.row ⟨28, 1, (0, 1), false, true, [.int .i64 N, .int .i64 S, .int .i64 F, .sl ss.length (cS ss), .sl fs.length (cP fs)]⟩)) fs.length ?_ ?_ ?_
        · omega
        · refine ⟨0, by omega, by omega, by omega, ?_⟩
          simp (disch := omega) only [go_sem, ↓IntWalk.iteOmega, IntWalk.toNatUp, Nat.reduceEqDiff, Nat.reduceAdd, Nat.reduceMul, Nat.reduceSub, Nat.reduceLT, Nat.reduceLeDiff, Int.reduceToNat, Int.reduceLT, Int.reduceLE, Int.reduceEq, Int.reduceAdd, Int.reduceSub, Int.reduceMul, Int.toNat_natCast, reduceCtorEq, decide_true, decide_false, IntWalk.i64_in, IntWalk.u64_in, IntWalk.u8_in, h1, ho1, List.take_zero]
        · clear hi1 h1 ho1
          rintro m a o nx ⟨i, hi, rfl, hnx, h1,  hi1, hall2, ho1⟩
          by_cases hlt : i < fs.length
          · have hat := cP_at hlt
            have htk := take_succ_getD hlt (0, 0)
            have hmem := getD_mem hlt (0, 0)
            generalize fs.getD i (0, 0) = p at hat htk hmem
            obtain ⟨f, t⟩ := p
            simp only at hat
            by_cases hp : (0 ≤ f ∧ f < N) ∧ (0 ≤ t ∧ t < N)
            · obtain ⟨⟨p1, p2⟩, p3, p4⟩ := hp
              simp (disch := omega) only [go_sem, ↓IntWalk.iteOmega, IntWalk.toNatUp, Nat.reduceEqDiff, Nat.reduceAdd, Nat.reduceMul, Nat.reduceSub, Nat.reduceLT, Nat.reduceLeDiff, Int.reduceToNat, Int.reduceLT, Int.reduceLE, Int.reduceEq, Int.reduceAdd, Int.reduceSub, Int.reduceMul, Int.toNat_natCast, reduceCtorEq, decide_true, decide_false, IntWalk.i64_in, IntWalk.u64_in, IntWalk.u8_in, h1,  hi1, ho1, hat, hin]
              refine ⟨_, ?_, i + 1, by omega, rfl, rfl, ?_⟩
              · omega
              · rw [htk, List.all_append, hall2]
                simp [okF', p1, p2, p3, p4]
            · have hck2 : chk N S F ss fs = false := by
                rw [hck, Bool.and_eq_false_iff]
                refine .inr (Bool.eq_false_iff.2 fun h => hp ?_)
                have := List.all_eq_true.1 h _ hmem
                simpa [okF'] using this
              rw [hck2]
              have hd : ¬ (0 ≤ f ∧ f < N) ∨ ((0 ≤ f ∧ f < N) ∧ ¬ (0 ≤ t ∧ t < N)) := by omega
              rcases hd with d | ⟨d1, d2⟩
              all_goals simp (disch := omega) only [go_sem, ↓IntWalk.iteOmega, IntWalk.toNatUp, Nat.reduceEqDiff, Nat.reduceAdd, Nat.reduceMul, Nat.reduceSub, Nat.reduceLT, Nat.reduceLeDiff, Int.reduceToNat, Int.reduceLT, Int.reduceLE, Int.reduceEq, Int.reduceAdd, Int.reduceSub, Int.reduceMul, Int.toNat_natCast, reduceCtorEq, decide_true, decide_false, IntWalk.i64_in, IntWalk.u64_in, IntWalk.u8_in, h1,  hi1, ho1, hat, hin]
          · have hie : i = fs.length := by omega
            rw [hie, List.take_length] at hall2
            rw [hck, hall, hall2]
            simp (disch := omega) only [go_sem, ↓IntWalk.iteOmega, IntWalk.toNatUp, Nat.reduceEqDiff, Nat.reduceAdd, Nat.reduceMul, Nat.reduceSub, Nat.reduceLT, Nat.reduceLeDiff, Int.reduceToNat, Int.reduceLT, Int.reduceLE, Int.reduceEq, Int.reduceAdd, Int.reduceSub, Int.reduceMul, Int.toNat_natCast, reduceCtorEq, decide_true, decide_false, IntWalk.i64_in, IntWalk.u64_in, IntWalk.u8_in, h1,  hi1, ho1]
  · have hck : chk N S F ss fs = false := by
      unfold chk
      rw [decide_eq_false hh]; rfl
    rw [hck]
    have hd : N < 1 ∨ (1 ≤ N ∧ 1000 < N) ∨ (1 ≤ N ∧ N ≤ 1000 ∧ 20000 < ss.length) ∨ (1 ≤ N ∧ N ≤ 1000 ∧ ss.length ≤ 20000 ∧ 20000 < fs.length) ∨ (1 ≤ N ∧ N ≤ 1000 ∧ ss.length ≤ 20000 ∧ fs.length ≤ 20000 ∧ ¬ (0 ≤ S ∧ S < N)) ∨ (1 ≤ N ∧ N ≤ 1000 ∧ ss.length ≤ 20000 ∧ fs.length ≤ 20000 ∧ (0 ≤ S ∧ S < N) ∧ ¬ (0 ≤ F ∧ F < N)) := by omega
    rcases hd with d | ⟨d1, d2⟩ | ⟨d1, d2, d3⟩ | ⟨d1, d2, d3, d4⟩ | ⟨d1, d2, d3, d4, d5⟩ | ⟨d1, d2, d3, d4, d5, d6⟩
    all_goals simp (disch := omega) only [go_sem, ↓IntWalk.iteOmega, IntWalk.toNatUp, Nat.reduceEqDiff, Nat.reduceAdd, Nat.reduceMul, Nat.reduceSub, Nat.reduceLT, Nat.reduceLeDiff, Int.reduceToNat, Int.reduceLT, Int.reduceLE, Int.reduceEq, Int.reduceAdd, Int.reduceSub, Int.reduceMul, Int.toNat_natCast, reduceCtorEq, decide_true, decide_false, IntWalk.i64_in, IntWalk.u64_in, IntWalk.u8_in, hin]

theorem lookFew (X) : lookedAt (EX md0 X) (fun _ => none) 1 Try.f22 = true := by kernel_rfl
theorem few_ok (N S F : Int) (ss : List (Int × Int × Int)) (fs : List (Int × Int)) : Ok Try.prog 22 [nfaV N S F ss fs] (.bool (decide (ss.length ≤ 60 ∧ fs.length ≤ 60))) := by
  refine ok_of_WP (E := EX md0 (fun _ _ => none)) (cr := noR) (tab_nil _) (noR_ok _) mixed (k := 0) Try.func22 (lookFew _) rfl ?_
  simp only [Try.f22, Option.getD_some]
  by_cases h1 : ss.length ≤ 60
  · by_cases h2 : fs.length ≤ 60
    · rw [decide_eq_true ⟨h1, h2⟩]
      simp (disch := omega) only [go_sem, ↓IntWalk.iteOmega, IntWalk.toNatUp, Nat.reduceEqDiff, Nat.reduceAdd, Nat.reduceMul, Nat.reduceSub, Nat.reduceLT, Nat.reduceLeDiff, Int.reduceToNat, Int.reduceLT, Int.reduceLE, Int.reduceEq, Int.reduceAdd, Int.reduceSub, Int.reduceMul, Int.toNat_natCast, reduceCtorEq, decide_true, decide_false, IntWalk.i64_in, IntWalk.u64_in, IntWalk.u8_in]
      rw [decide_eq_true (by omega)]
    · rw [decide_eq_false (fun h => h2 h.2)]
      simp (disch := omega) only [go_sem, ↓IntWalk.iteOmega, IntWalk.toNatUp, Nat.reduceEqDiff, Nat.reduceAdd, Nat.reduceMul, Nat.reduceSub, Nat.reduceLT, Nat.reduceLeDiff, Int.reduceToNat, Int.reduceLT, Int.reduceLE, Int.reduceEq, Int.reduceAdd, Int.reduceSub, Int.reduceMul, Int.toNat_natCast, reduceCtorEq, decide_true, decide_false, IntWalk.i64_in, IntWalk.u64_in, IntWalk.u8_in]
      rw [decide_eq_false (by omega)]
  · rw [decide_eq_false (fun h => h1 h.1)]
    simp (disch := omega) only [go_sem, ↓IntWalk.iteOmega, IntWalk.toNatUp, Nat.reduceEqDiff, Nat.reduceAdd, Nat.reduceMul, Nat.reduceSub, Nat.reduceLT, Nat.reduceLeDiff, Int.reduceToNat, Int.reduceLT, Int.reduceLE, Int.reduceEq, Int.reduceAdd, Int.reduceSub, Int.reduceMul, Int.toNat_natCast, reduceCtorEq, decide_true, decide_false, IntWalk.i64_in, IntWalk.u64_in, IntWalk.u8_in]
end Go.Proofs.Ytcaemgpificohaa.A
