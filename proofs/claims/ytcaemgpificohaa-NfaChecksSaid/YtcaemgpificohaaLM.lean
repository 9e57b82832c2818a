/- Make on the caller's memory: what it makes may be appended to. -/
import Derived.Test.YtcaemgpificohaaLX
set_option linter.unusedVariables false
set_option linter.unusedSimpArgs false
set_option linter.unnecessarySimpa false
namespace Go.Proofs.Ytcaemgpificohaa.A
open Go
set_option maxRecDepth 20000
@[go_sem] theorem freezeR_false (v H) : freezeR false v H = (v, H) := rfl
def md1 (f : FuncId) : Mode := if f = 23 then .raw false else md0 f
noncomputable def crM : CallR := tabLookR [(23, fun args H => if args.length = 4 then runP (EX md0 X23) noR 16 nz23' Try.f23 args H else none)]
theorem crM_ok : CRSound Try.prog crM ∧ Up crM := by
  refine tabR_cons (tabR_nil _) fun args H v H' h => ?_
  split at h
  · rename_i hn
    exact okR_run (E := EX md0 X23) X23_ok (noR_ok Try.prog).1 (noR_ok Try.prog).2 mixed Try.func23 (by rw [hn]; exact look23 X23) h
  · cases h
theorem make_call {o : Ob} {nx : Nat} {K : AV × AH → Prop} (size : Int) (ns : List Int) (start end_ : Int)
    (h : ∀ vS vF o' nx', Made o nx (sizeN size) (start % sizeN size) (end_ % sizeN size) (stepsOf (sizeN size) (ns.take 14)) (freesOf (sizeN size) (ns.take 14)) vS vF o' nx' → K (.agg [.int .i64 (sizeN size), .int .i64 (start % sizeN size), .int .i64 (end_ % sizeN size), vS, vF], ⟨o', nx'⟩)) :
    wO (Option.map (fun p => freezeR false p.1 p.2) (crM 23 [.int .i64 size, slI ns, .int .i64 start, .int .i64 end_] ⟨o, nx⟩)) K := by
  have hw := make_wp noR 16 size ns start end_ o nx (by omega)
  have hb : Try.f23.body = some (Try.f23.body.getD .skip) := rfl
  unfold WP at hw
  have e : crM 23 [.int .i64 size, slI ns, .int .i64 start, .int .i64 end_] ⟨o, nx⟩ = runP (EX md0 X23) noR 16 nz23' Try.f23 [.int .i64 size, slI ns, .int .i64 start, .int .i64 end_] ⟨o, nx⟩ := rfl
  rw [e]
  unfold runP
  rw [hb]
  dsimp only
  cases he : evalP (EX md0 X23) (fun _ _ => none) noR 16 nz23' none (Try.f23.body.getD .skip) (begin_ [.int .i64 size, slI ns, .int .i64 start, .int .i64 end_]) ⟨o, nx⟩ with
  | none => rw [he] at hw; exact hw.elim
  | some p =>
    obtain ⟨u, a, H⟩ := p
    rw [he] at hw
    obtain ⟨rfl, vS, vF, hM, h8, ho8⟩ := hw
    have hr : resultsL (EX md0 X23).P a H Try.f23.results.toList = some [.agg [.int .i64 (sizeN size), .int .i64 (start % sizeN size), .int .i64 (end_ % sizeN size), vS, vF]] := by
      obtain ⟨Ho, Hn⟩ := H
      dsimp only at ho8
      simp only [Try.f23]
      simp (disch := omega) only [go_sem, ↓IntWalk.iteOmega, IntWalk.toNatUp, Nat.reduceEqDiff, Nat.reduceAdd, Nat.reduceMul, Nat.reduceSub, Nat.reduceLT, Nat.reduceLeDiff, Int.reduceToNat, Int.reduceLT, Int.reduceLE, Int.reduceEq, Int.reduceAdd, Int.reduceSub, Int.reduceMul, Int.toNat_natCast, reduceCtorEq, decide_true, decide_false, IntWalk.i64_in, IntWalk.u64_in, IntWalk.u8_in, h8, ho8]
    dsimp only
    rw [hr]
    exact h vS vF H.o H.nx hM
end Go.Proofs.Ytcaemgpificohaa.A
