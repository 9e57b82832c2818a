/- The program's environment for abstract runs; 'known' answers true; 'within' is the remainder. -/
import Derived.Test.YtcaemgpificohaaProg
import Derived.Test.YtcaemgpificohaaA27
import Derived.IntWalk
set_option linter.unusedVariables false
set_option linter.unusedSimpArgs false
set_option linter.unnecessarySimpa false
namespace Go.Proofs.Ytcaemgpificohaa.A
open Go

/-- Which functions are called on data alone, in a run that is closed. -/
def mode0 (f : FuncId) : Mode := if f ∈ [14, 28, 38, 39] then .pure false else if f ∈ [18, 20, 36] then .pure true else .raw true
noncomputable def E0 : Env := { P := Try.prog, mode := mode0, ext := fun _ _ => none }
def nz0 : Nat → Option (List (Nat × Nat)) := fun _ => none
noncomputable def cr0 : CallR := (calls E0 60).2
theorem mixed : Try.prog.follows .mixedOrders = true := by kernel_rfl
theorem cr0_sound : CRSound Try.prog cr0 := (calls_sound E0 (tab_nil _) mixed 60).2
theorem cr0_up : Up cr0 := calls_nx E0 60
abbrev noP : CallP := fun _ _ => none

theorem known_run : (calls E0 60).1 12 [] = some (.bool true) := by kernel_rfl
theorem known_ok : Ok Try.prog 12 [] (.bool true) := ok_calls (E := E0) (tab_nil _) mixed known_run

def t12 : List AV → Option AV
  | [] => some (.bool true)
  | _ => none
def t25 : List AV → Option AV
  | [.int .i64 a, .int .i64 n] => if 0 < n ∧ n ≤ 1000000 then some (.int .i64 (a % n)) else none
  | _ => none

theorem within_look : lookedAt E0 nz0 2 Try.f25 = true := by kernel_rfl
set_option maxRecDepth 10000 in
theorem within_run (a n : Int) (h : 0 < n) (h' : n ≤ 1000000) (cr : CallR) (k : Nat) : ∃ H', runP E0 cr k nz0 Try.f25 [.int .i64 a, .int .i64 n] noHeap = some (.int .i64 (a % n), H') := by
  have hn : ¬ n = 0 := by omega
  have h1 : a.tmod n < n := by rw [Int.tmod_eq_emod]; have := Int.emod_lt_of_pos a h; split <;> omega
  have h2 : -n < a.tmod n := by rw [Int.tmod_eq_emod]; have := Int.emod_nonneg a hn; split <;> omega
  have h3 : a % n = if a.tmod n < 0 then a.tmod n + n else a.tmod n := by
    have e1 := Int.emod_lt_of_pos a h
    have e2 := Int.emod_nonneg a hn
    rw [Int.tmod_eq_emod]
    have : (n.natAbs : Int) = n := by omega
    split
    · split <;> omega
    · rename_i hc
      simp only [not_or] at hc
      have h0 : a % n ≠ 0 := fun e => hc.2 (Int.dvd_of_emod_eq_zero e)
      split <;> omega
  rw [h3]
  by_cases hc : a.tmod n < 0
  · simp only [runP, Try.f25, evalP, regionP, seqR, steps, step1, wantedA, evalOp, opd, ofConst, ofCell, Option.map_some, Option.bind_some, putO, put, begin_, aBin, aInt, hn, hc, decide_true, if_true, if_false, reduceCtorEq, Nat.reduceEqDiff, List.getElem?_cons_zero, List.getElem?_cons_succ, Option.getD_some, noHeap, Nat.zero_add, Nat.reduceAdd, resultsL, result1, tup1]
    exact ⟨_, by rw [IntWalk.i64_in _ (by omega)]⟩
  · simp only [runP, Try.f25, evalP, regionP, seqR, steps, step1, wantedA, evalOp, opd, ofConst, ofCell, Option.map_some, Option.bind_some, putO, put, begin_, aBin, aInt, hn, hc, decide_false, if_true, if_false, reduceCtorEq, Nat.reduceEqDiff, List.getElem?_cons_zero, List.getElem?_cons_succ, Option.getD_some, noHeap, Nat.zero_add, Nat.reduceAdd, resultsL, result1, tup1]
    exact ⟨_, rfl⟩
theorem within_ok (a n : Int) (h : 0 < n) (h' : n ≤ 1000000) : Ok Try.prog 25 [.int .i64 a, .int .i64 n] (.int .i64 (a % n)) := by
  obtain ⟨H', hr⟩ := within_run a n h h' cr0 0
  exact ok_run (E := E0) (tab_nil _) cr0_sound cr0_up mixed Try.func25 within_look hr
theorem t12_ok (args : List AV) (r : AV) (h : t12 args = some r) : Ok Try.prog 12 args r := by
  unfold t12 at h
  split at h
  · injection h with h; subst h; exact known_ok
  · cases h
theorem t25_ok (args : List AV) (r : AV) (h : t25 args = some r) : Ok Try.prog 25 args r := by
  unfold t25 at h
  split at h
  · split at h
    · rename_i hc
      injection h with h; subst h
      exact within_ok _ _ hc.1 hc.2
    · cases h
  · cases h

end Go.Proofs.Ytcaemgpificohaa.A
