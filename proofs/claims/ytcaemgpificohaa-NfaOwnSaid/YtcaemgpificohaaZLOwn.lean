/- NfaOwn answers true for whatever it is called with; the input reads as it did. -/
import Derived.Test.YtcaemgpificohaaMLOwn1
import Derived.Test.YtcaemgpificohaaMLOwn2
import Derived.Test.YtcaemgpificohaaMLOwn3
import Derived.Test.YtcaemgpificohaaMLOwn4
import Derived.Test.YtcaemgpificohaaMLOwn5
import Derived.Test.YtcaemgpificohaaMLOwn6
set_option linter.unusedVariables false
set_option linter.unusedSimpArgs false
set_option linter.unnecessarySimpa false
/- Close on the caller's memory: what it tells is new, and may be written to. -/
namespace Go.Proofs.Ytcaemgpificohaa.A
open Go
set_option maxRecDepth 20000
/-- What lay below a bound lies as it did. -/
def Kept (n : Nat) (o0 o : Ob) : Prop := ∀ i k, i < n → o (i, k) = o0 (i, k)
theorem Kept.upd {n o0 o j d x} (h : Kept n o0 o) (hj : n ≤ j) : Kept n o0 (A.upd o (j, d) x) := fun i k hi => by
  have e : ¬ (i, k) = (j, d) := fun hc => by injection hc with h1 _; omega
  rw [A.upd, if_neg e]
  exact h i k hi
theorem closeG_wp (md X cr k) (o0 : Ob) (nx0 : Nat) {i9 : Nat} {g9 : Tag} (hi9 : i9 < nx0) (N : Nat) (hN : N ≤ 100000) (rows : List (List Int)) (hr : rows.length = N) (l : List Int) (ho9 : o0 (i9, 20) = some (.row ⟨3, 1, g9, false, true, cI l⟩)) (hsz : l.length + (rows.map List.length).sum ≤ 1000000) (hk : l.length + (rows.map List.length).sum + N < k) :
    WP (EX md X) cr k (fun _ => none) (Try.f39.body.getD .skip) (begin_ [closerV N rows, .ref (i9, 20) g9 0 l.length]) o0 nx0 (fun u a o nx => u = .ret ∧ nx0 ≤ nx ∧ HS 3 1 76 o nx (a 4) (idxs (closeB N rows l)).length (cI (idxs (closeB N rows l))) ∧ (∀ j g m, a 4 = .ref (j, 76) g 0 m → nx0 ≤ j) ∧ Kept nx0 o0 o) := by
  simp only [Try.f39, Option.getD_some]
  have hz : (cI (List.replicate l.length 0)).drop l.length = [] := by simp [cI]
  simp (disch := omega) only [go_sem, ↓IntWalk.iteOmega, IntWalk.toNatUp, Nat.reduceEqDiff, Nat.reduceAdd, Nat.reduceMul, Nat.reduceSub, Nat.reduceLT, Nat.reduceLeDiff, Int.reduceToNat, Int.reduceLT, Int.reduceLE, Int.reduceEq, Int.reduceAdd, Int.reduceSub, Int.reduceMul, Int.toNat_natCast, reduceCtorEq, decide_true, decide_false, IntWalk.i64_in, IntWalk.u64_in, IntWalk.u8_in, begin_, rep_bool, rep_int, hz, ho9]
  refine WP_loop (fun m a o nx => ∃ b full n g, Mid N rows l b (full.take n) ∧ n ≤ full.length ∧ m = n + todo rows b ∧ nx0 + 4 ≤ nx ∧ m ≤ l.length + (rows.map List.length).sum ∧ a 2 = .ptr (nx0, 2) (nx0, 2) 0 ∧ a 5 = .ref (nx0 + 1, 13) (nx0 + 1, 13) 0 N ∧ a 6 = .ref (nx0 + 2, 16) g 0 n ∧
      o (nx0, 2) = some (.row ⟨79, 1, (nx0, 2), false, true, [.int .i64 N, .sl N (rows.map slI)]⟩) ∧ o (nx0 + 1, 13) = some (.row ⟨4, 1, (nx0 + 1, 13), false, true, cB b⟩) ∧ o (nx0 + 2, 16) = some (.row ⟨3, 1, g, false, true, cI full⟩) ∧ Kept nx0 o0 o) (l.length + (rows.map List.length).sum) ?_ ?_ ?_
  · omega
  · refine ⟨List.replicate N false, l, l.length, (nx0 + 2, 16), by rw [List.take_length]; exact Mid.start N rows l, Nat.le_refl _, by rw [todo_start hr], by omega, Nat.le_refl _, ?_⟩
    simp only [go_sem, ↓IntWalk.iteOmega, IntWalk.toNatUp, Nat.reduceEqDiff, Nat.reduceAdd, Nat.reduceMul, Nat.reduceSub, Nat.reduceLT, Nat.reduceLeDiff, Int.reduceToNat, Int.reduceLT, Int.reduceLE, Int.reduceEq, Int.reduceAdd, Int.reduceSub, Int.reduceMul, Int.toNat_natCast, reduceCtorEq, decide_true, decide_false, IntWalk.i64_in, IntWalk.u64_in, IntWalk.u8_in, begin_]
    refine Kept.upd (Kept.upd (Kept.upd (Kept.upd (fun i k _ => rfl) ?_) ?_) ?_) ?_ <;> omega
  · rintro m a o nx ⟨b, full, n, g, hM, hn, rfl, hnx, hm, h2, h5, h6, ho2, ho13, ho16, hkp⟩
    have hbl := hM.len
    by_cases h0 : n = 0
    · subst h0
      rw [List.take_zero] at hM
      have hdone := hM.done
      simp (disch := omega) only [go_sem, ↓IntWalk.iteOmega, IntWalk.toNatUp, Nat.reduceEqDiff, Nat.reduceAdd, Nat.reduceMul, Nat.reduceSub, Nat.reduceLT, Nat.reduceLeDiff, Int.reduceToNat, Int.reduceLT, Int.reduceLE, Int.reduceEq, Int.reduceAdd, Int.reduceSub, Int.reduceMul, Int.toNat_natCast, reduceCtorEq, decide_true, decide_false, IntWalk.i64_in, IntWalk.u64_in, IntWalk.u8_in, h2, h5, h6, ho2, ho13, ho16]
      refine WP_loop (fun m a o nx' => ∃ i g, i ≤ N ∧ m = N - i ∧ nx + 2 ≤ nx' ∧ a 8 = .ref (nx + 1, 61) g 0 (idxs (b.take i)).length ∧ a 62 = .ref (nx0 + 1, 13) (nx0 + 1, 13) 0 N ∧ a 63 = .int .i64 N ∧ a 64 = .int .i64 i ∧
        o (nx0 + 1, 13) = some (.row ⟨4, 1, (nx0 + 1, 13), false, true, cB b⟩) ∧ o (nx + 1, 61) = some (.row ⟨3, 1, g, false, true, cI (idxs (b.take i))⟩) ∧ Kept nx0 o0 o) N ?_ ?_ ?_
      · omega
      · refine ⟨0, (nx + 1, 61), by omega, by omega, by omega, ?_⟩
        have h0 : idxs (b.take 0) = [] := rfl
        simp only [go_sem, ↓IntWalk.iteOmega, IntWalk.toNatUp, Nat.reduceEqDiff, Nat.reduceAdd, Nat.reduceMul, Nat.reduceSub, Nat.reduceLT, Nat.reduceLeDiff, Int.reduceToNat, Int.reduceLT, Int.reduceLE, Int.reduceEq, Int.reduceAdd, Int.reduceSub, Int.reduceMul, Int.toNat_natCast, reduceCtorEq, decide_true, decide_false, IntWalk.i64_in, IntWalk.u64_in, IntWalk.u8_in, ho13, h0]
        exact ⟨rfl, rfl, hkp.upd (by omega)⟩
      · rintro m a o nx' ⟨i, g, hi, rfl, hnx', h8, h62, h63, h64, ho13, ho61, hkp⟩
        by_cases hlt : i < N
        · have hib : i < b.length := by omega
          have hgb := cB_get (s := 1) hib
          have hsn := idxs_snoc hib
          have hle := idxs_le (b.take i)
          rw [List.length_take] at hle
          cases hbi : b.getD i false with
          | true =>
            rw [hbi] at hgb hsn
            rw [if_pos rfl] at hsn
            simp (disch := omega) only [go_sem, ↓IntWalk.iteOmega, IntWalk.toNatUp, Nat.reduceEqDiff, Nat.reduceAdd, Nat.reduceMul, Nat.reduceSub, Nat.reduceLT, Nat.reduceLeDiff, Int.reduceToNat, Int.reduceLT, Int.reduceLE, Int.reduceEq, Int.reduceAdd, Int.reduceSub, Int.reduceMul, Int.toNat_natCast, reduceCtorEq, decide_true, decide_false, IntWalk.i64_in, IntWalk.u64_in, IntWalk.u8_in, h8, h62, h63, h64, ho13, ho61, hgb, IntWalk.i64_in]
            exact ⟨_, by omega, i + 1, _, by omega, rfl, by omega, by rw [hsn, List.length_append]; rfl, by simp, by rw [hsn, cI_app]; rfl, by repeat (first | exact hkp | refine Kept.upd ?_ (by omega))⟩
          | false =>
            rw [hbi] at hgb hsn
            rw [if_neg (by simp), List.append_nil] at hsn
            simp (disch := omega) only [go_sem, ↓IntWalk.iteOmega, IntWalk.toNatUp, Nat.reduceEqDiff, Nat.reduceAdd, Nat.reduceMul, Nat.reduceSub, Nat.reduceLT, Nat.reduceLeDiff, Int.reduceToNat, Int.reduceLT, Int.reduceLE, Int.reduceEq, Int.reduceAdd, Int.reduceSub, Int.reduceMul, Int.toNat_natCast, reduceCtorEq, decide_true, decide_false, IntWalk.i64_in, IntWalk.u64_in, IntWalk.u8_in, h8, h62, h63, h64, ho13, ho61, hgb, IntWalk.i64_in]
            exact ⟨_, by omega, i + 1, g, by omega, rfl, by omega, by rw [hsn], by simp, by rw [hsn], hkp⟩
        · have e : i = N := by omega
          subst e
          rw [List.take_of_length_le (by omega)] at h8 ho61
          have hlb := idxs_le b
          rw [← hdone]
          by_cases hz : (idxs b).length = 0
          · simp (disch := omega) only [go_sem, ↓IntWalk.iteOmega, IntWalk.toNatUp, Nat.reduceEqDiff, Nat.reduceAdd, Nat.reduceMul, Nat.reduceSub, Nat.reduceLT, Nat.reduceLeDiff, Int.reduceToNat, Int.reduceLT, Int.reduceLE, Int.reduceEq, Int.reduceAdd, Int.reduceSub, Int.reduceMul, Int.toNat_natCast, reduceCtorEq, decide_true, decide_false, IntWalk.i64_in, IntWalk.u64_in, IntWalk.u8_in, h8, h62, h63, h64, ho13, ho61, hz]
            rw [List.length_eq_zero_iff.1 hz]
            exact ⟨by omega, HS.nil, fun j g m h => (by cases h), hkp⟩
          · simp (disch := omega) only [go_sem, ↓IntWalk.iteOmega, IntWalk.toNatUp, Nat.reduceEqDiff, Nat.reduceAdd, Nat.reduceMul, Nat.reduceSub, Nat.reduceLT, Nat.reduceLeDiff, Int.reduceToNat, Int.reduceLT, Int.reduceLE, Int.reduceEq, Int.reduceAdd, Int.reduceSub, Int.reduceMul, Int.toNat_natCast, reduceCtorEq, decide_true, decide_false, IntWalk.i64_in, IntWalk.u64_in, IntWalk.u8_in, h8, h62, h63, h64, ho13, ho61, hz]
            refine ⟨by omega, .inr ⟨nx' + 1, _, rfl, by omega, upd_same _ _ _, by rw [cI_length, Nat.mul_one]⟩, fun j g m h => ?_, hkp.upd (by omega)⟩
            injection h with h1 h2
            injection h1 with h1 h2
            omega
    · have hg := cI_get (s := 1) (show n - 1 < full.length by omega)
      have htk : full.take n = full.take (n - 1) ++ [full.getD (n - 1) 0] := by
        have := take_succ_getD (show n - 1 < full.length by omega) 0
        rwa [show n - 1 + 1 = n by omega] at this
      rw [htk] at hM
      generalize full.getD (n - 1) 0 = x at hg htk hM
      have htk1 : (full.take (n - 1)).length = n - 1 := by rw [List.length_take]; omega
      by_cases hx0 : 0 ≤ x
      · obtain ⟨s, rfl⟩ := Int.eq_ofNat_of_zero_le hx0
        by_cases hs : s < N
        · have hgb := cB_get (s := 1) (show s < b.length by omega)
          have hrow := slRows_get (rows := rows) (show s < rows.length by omega)
          have hcs := cB_set b s true (by omega)
          cases hbs : b.getD s false with
          | true =>
            rw [hbs] at hgb
            simp (disch := omega) only [go_sem, ↓IntWalk.iteOmega, IntWalk.toNatUp, Nat.reduceEqDiff, Nat.reduceAdd, Nat.reduceMul, Nat.reduceSub, Nat.reduceLT, Nat.reduceLeDiff, Int.reduceToNat, Int.reduceLT, Int.reduceLE, Int.reduceEq, Int.reduceAdd, Int.reduceSub, Int.reduceMul, Int.toNat_natCast, reduceCtorEq, decide_true, decide_false, IntWalk.i64_in, IntWalk.u64_in, IntWalk.u8_in, h2, h5, h6, ho2, ho13, ho16, hg, hgb, IntWalk.i64_in]
            refine ⟨_, ?_, b, full, n - 1, g, hM.skip (fun t ht _ => ?_), by omega, rfl, by omega, by omega, rfl, rfl, rfl, by repeat (first | exact hkp | refine Kept.upd ?_ (by omega))⟩
            · omega
            · have : s = t := by omega
              rw [← this, hbs]
          | false =>
            rw [hbs] at hgb
            have htd := todo_set (rows := rows) (show s < b.length by omega) hbs
            have hrl : (rows.getD s []).length ≤ (rows.map List.length).sum := row_le rows s
            simp (disch := omega) only [go_sem, ↓IntWalk.iteOmega, IntWalk.toNatUp, Nat.reduceEqDiff, Nat.reduceAdd, Nat.reduceMul, Nat.reduceSub, Nat.reduceLT, Nat.reduceLeDiff, Int.reduceToNat, Int.reduceLT, Int.reduceLE, Int.reduceEq, Int.reduceAdd, Int.reduceSub, Int.reduceMul, Int.toNat_natCast, reduceCtorEq, decide_true, decide_false, IntWalk.i64_in, IntWalk.u64_in, IntWalk.u8_in, h2, h5, h6, ho2, ho13, ho16, hg, hgb, hrow, hcs, cI_take, IntWalk.i64_in]
            refine ⟨_, ?_, b.set s true, full.take (n - 1) ++ rows.getD s [], n - 1 + (rows.getD s []).length, _, ?_, ?_, rfl, by omega, ?_, rfl, rfl, by rw [cI_app], by repeat (first | exact hkp | refine Kept.upd ?_ (by omega))⟩
            · omega
            · rw [List.take_of_length_le (by rw [List.length_append]; omega)]
              exact hM.mark hs
            · rw [List.length_append]; omega
            · omega
        · simp (disch := omega) only [go_sem, ↓IntWalk.iteOmega, IntWalk.toNatUp, Nat.reduceEqDiff, Nat.reduceAdd, Nat.reduceMul, Nat.reduceSub, Nat.reduceLT, Nat.reduceLeDiff, Int.reduceToNat, Int.reduceLT, Int.reduceLE, Int.reduceEq, Int.reduceAdd, Int.reduceSub, Int.reduceMul, Int.toNat_natCast, reduceCtorEq, decide_true, decide_false, IntWalk.i64_in, IntWalk.u64_in, IntWalk.u8_in, h2, h5, h6, ho2, ho13, ho16, hg, IntWalk.i64_in]
          exact ⟨_, by omega, b, full, n - 1, g, hM.skip (fun t ht htN => by omega), by omega, rfl, by omega, by omega, rfl, rfl, rfl, by repeat (first | exact hkp | refine Kept.upd ?_ (by omega))⟩
      · simp (disch := omega) only [go_sem, ↓IntWalk.iteOmega, IntWalk.toNatUp, Nat.reduceEqDiff, Nat.reduceAdd, Nat.reduceMul, Nat.reduceSub, Nat.reduceLT, Nat.reduceLeDiff, Int.reduceToNat, Int.reduceLT, Int.reduceLE, Int.reduceEq, Int.reduceAdd, Int.reduceSub, Int.reduceMul, Int.toNat_natCast, reduceCtorEq, decide_true, decide_false, IntWalk.i64_in, IntWalk.u64_in, IntWalk.u8_in, h2, h5, h6, ho2, ho13, ho16, hg, IntWalk.i64_in]
        exact ⟨_, by omega, b, full, n - 1, g, hM.skip (fun t ht _ => by omega), by omega, rfl, by omega, by omega, rfl, rfl, rfl, by repeat (first | exact hkp | refine Kept.upd ?_ (by omega))⟩
end Go.Proofs.Ytcaemgpificohaa.A
/- Make on the caller's memory: what it makes may be appended to. -/
namespace Go.Proofs.Ytcaemgpificohaa.A
open Go
set_option maxRecDepth 20000
@[go_sem] theorem freezeR_false (v H) : freezeR false v H = (v, H) := rfl
def md1 (f : FuncId) : Mode := if f = 23 then .raw false else md0 f
noncomputable def crM : CallR := tabLookR [(23, fun args H => if args.length = 4 then runP (EX md0 X23) noR 16 nz23' Try.f23 args H else none)]
theorem crM_ok : CRSound Try.prog crM ∧ Up crM := by
  refine tabR_cons (tabR_nil _) fun args H v H' h => ?_
  split at h
  · rename_i hn
    exact okR_run (E := EX md0 X23) X23_ok (noR_ok Try.prog).1 (noR_ok Try.prog).2 mixed Try.func23 (by rw [hn]; exact look23 X23) h
  · cases h
theorem make_call {o : Ob} {nx : Nat} {K : AV × AH → Prop} (size : Int) (ns : List Int) (start end_ : Int)
    (h : ∀ vS vF o' nx', Made o nx (sizeN size) (start % sizeN size) (end_ % sizeN size) (stepsOf (sizeN size) (ns.take 14)) (freesOf (sizeN size) (ns.take 14)) vS vF o' nx' → K (.agg [.int .i64 (sizeN size), .int .i64 (start % sizeN size), .int .i64 (end_ % sizeN size), vS, vF], ⟨o', nx'⟩)) :
    wO (Option.map (fun p => freezeR false p.1 p.2) (crM 23 [.int .i64 size, slI ns, .int .i64 start, .int .i64 end_] ⟨o, nx⟩)) K := by
  have hw := make_wp noR 16 size ns start end_ o nx (by omega)
  have hb : Try.f23.body = some (Try.f23.body.getD .skip) := rfl
  unfold WP at hw
  have e : crM 23 [.int .i64 size, slI ns, .int .i64 start, .int .i64 end_] ⟨o, nx⟩ = runP (EX md0 X23) noR 16 nz23' Try.f23 [.int .i64 size, slI ns, .int .i64 start, .int .i64 end_] ⟨o, nx⟩ := rfl
  rw [e]
  unfold runP
  rw [hb]
  dsimp only
  cases he : evalP (EX md0 X23) (fun _ _ => none) noR 16 nz23' none (Try.f23.body.getD .skip) (begin_ [.int .i64 size, slI ns, .int .i64 start, .int .i64 end_]) ⟨o, nx⟩ with
  | none => rw [he] at hw; exact hw.elim
  | some p =>
    obtain ⟨u, a, H⟩ := p
    rw [he] at hw
    obtain ⟨rfl, vS, vF, hM, h8, ho8⟩ := hw
    have hr : resultsL (EX md0 X23).P a H Try.f23.results.toList = some [.agg [.int .i64 (sizeN size), .int .i64 (start % sizeN size), .int .i64 (end_ % sizeN size), vS, vF]] := by
      obtain ⟨Ho, Hn⟩ := H
      dsimp only at ho8
      simp only [Try.f23]
      simp (disch := omega) only [go_sem, ↓IntWalk.iteOmega, IntWalk.toNatUp, Nat.reduceEqDiff, Nat.reduceAdd, Nat.reduceMul, Nat.reduceSub, Nat.reduceLT, Nat.reduceLeDiff, Int.reduceToNat, Int.reduceLT, Int.reduceLE, Int.reduceEq, Int.reduceAdd, Int.reduceSub, Int.reduceMul, Int.toNat_natCast, reduceCtorEq, decide_true, decide_false, IntWalk.i64_in, IntWalk.u64_in, IntWalk.u8_in, h8, ho8]
    dsimp only
    rw [hr]
    exact h vS vF H.o H.nx hM
end Go.Proofs.Ytcaemgpificohaa.A
/- nfa.Close on the caller's memory. -/
namespace Go.Proofs.Ytcaemgpificohaa.A
open Go
set_option maxRecDepth 20000
theorem run_wO {E : Env} {cr : CallR} {k : Nat} {nz : Nat → Option (List (Nat × Nat))} {fn : Func} {c : Code} (hb : fn.body = some c) {args : List AV} {o : Ob} {nx : Nat} {K : AV × AH → Prop}
    (hw : WP E cr k nz c (begin_ args) o nx (fun u a o nx => u = .ret ∧ wO (resultsL E.P a ⟨o, nx⟩ fn.results.toList) fun vs => K (tup1 vs, ⟨o, nx⟩))) :
    wO (Option.map (fun p => freezeR false p.1 p.2) (runP E cr k nz fn args ⟨o, nx⟩)) K := by
  unfold WP at hw
  unfold runP
  rw [hb]
  dsimp only
  cases he : evalP E (fun _ _ => none) cr k nz none c (begin_ args) ⟨o, nx⟩ with
  | none => rw [he] at hw; exact hw.elim
  | some p =>
    obtain ⟨u, a, H⟩ := p
    rw [he] at hw
    obtain ⟨rfl, hv⟩ := hw
    dsimp only
    cases hr : resultsL E.P a H fn.results.toList with
    | none => rw [hr] at hv; exact hv.elim
    | some vs => rw [hr] at hv; exact hv
def mdc (f : FuncId) : Mode := if f = 39 then .raw false else md0 f
theorem mdc_close : mdc 39 = .raw false := rfl
theorem mdc_closing : mdc 38 = md0 38 := rfl
noncomputable def crC : CallR := tabLookR [(39, fun args H => if args.length = 2 then runP (EX md0 (fun _ _ => none)) noR 2000010 (fun _ => none) Try.f39 args H else none)]
theorem crC_ok : CRSound Try.prog crC ∧ Up crC := by
  refine tabR_cons (tabR_nil _) fun args H v H' h => ?_
  split at h
  · rename_i hn
    exact okR_run (E := EX md0 (fun _ _ => none)) (tab_nil _) (noR_ok Try.prog).1 (noR_ok Try.prog).2 mixed Try.func39 (by rw [hn]; exact look39 _) h
  · cases h
theorem crC_call {o : Ob} {nx i9 : Nat} {g9 : Tag} (hi9 : i9 < nx) {K : AV × AH → Prop} (N : Nat) (hN : N ≤ 100000) (rows : List (List Int)) (hr : rows.length = N) (l : List Int) (ho9 : o (i9, 20) = some (.row ⟨3, 1, g9, false, true, cI l⟩)) (hsz : l.length + (rows.map List.length).sum ≤ 1000000)
    (h : ∀ v o' nx', nx ≤ nx' → HS 3 1 76 o' nx' v (idxs (closeB N rows l)).length (cI (idxs (closeB N rows l))) → (∀ j g m, v = .ref (j, 76) g 0 m → nx ≤ j) → Kept nx o o' → K (v, ⟨o', nx'⟩)) :
    wO (Option.map (fun p => freezeR false p.1 p.2) (crC 39 [closerV N rows, .ref (i9, 20) g9 0 l.length] ⟨o, nx⟩)) K := by
  show wO (Option.map (fun p => freezeR false p.1 p.2) (runP (EX md0 (fun _ _ => none)) noR 2000010 (fun _ => none) Try.f39 [closerV N rows, .ref (i9, 20) g9 0 l.length] ⟨o, nx⟩)) K
  refine run_wO (c := Try.f39.body.getD .skip) rfl (WP_mono (closeG_wp md0 _ noR 2000010 o nx hi9 N hN rows hr l ho9 hsz (by omega)) ?_)
  rintro u a o' nx' ⟨rfl, hle, hS, hf, hk⟩
  refine ⟨rfl, ?_⟩
  simp only [Try.f39]
  generalize hv : a 4 = v at hS hf
  simp (disch := omega) only [go_sem, ↓IntWalk.iteOmega, IntWalk.toNatUp, Nat.reduceEqDiff, Nat.reduceAdd, Nat.reduceMul, Nat.reduceSub, Nat.reduceLT, Nat.reduceLeDiff, Int.reduceToNat, Int.reduceLT, Int.reduceLE, Int.reduceEq, Int.reduceAdd, Int.reduceSub, Int.reduceMul, Int.toNat_natCast, reduceCtorEq, decide_true, decide_false, IntWalk.i64_in, IntWalk.u64_in, IntWalk.u8_in, hv]
  exact h v o' nx' hle hS hf hk
/-! ### Close itself -/
def mdd (f : FuncId) : Mode := if f = 28 then .raw false else md0 f
theorem mdd_close : mdd 28 = .raw false := rfl
theorem mdd_law6_known : mdd 12 = md0 12 := rfl
theorem mdd_law6_within : mdd 25 = md0 25 := rfl
theorem mdd_law6_Make : mdd 23 = md0 23 := rfl
theorem mdd_nfa_Run : mdd 20 = md0 20 := rfl
theorem mdd_ref6_Same : mdd 17 = md0 17 := rfl
theorem mdd_ref1_Ints : mdd 27 = md0 27 := rfl
theorem mdd_ref6_Close : mdd 29 = md0 29 := rfl
theorem look28c (X) : lookedAt (EX mdc X) (fun _ => none) 2 Try.f28 = true := by kernel_rfl
theorem crD_run {o : Ob} {nx i9 : Nat} {g9 : Tag} (hi9 : i9 < nx) {K : AV × AH → Prop} {N : Nat} {S F : Int} {ss : List (Int × Int × Int)} {fs : List (Int × Int)} (hw : Wf N S F ss fs) (l : List Int) (ho9 : o (i9, 20) = some (.row ⟨3, 1, g9, false, true, cI l⟩)) (hl : l.length ≤ 900000)
    (h : ∀ v o' nx', nx ≤ nx' → HS 3 1 76 o' nx' v (idxs (closeB N (rowsOf N fs) l)).length (cI (idxs (closeB N (rowsOf N fs) l))) → (∀ j g m, v = .ref (j, 76) g 0 m → nx ≤ j) → Kept nx o o' → K (v, ⟨o', nx'⟩)) :
    wO (Option.map (fun p => freezeR false p.1 p.2) (runP (EX mdc X28) crC 2 (fun _ => none) Try.f28 [nfaV N S F ss fs, .ref (i9, 20) g9 0 l.length] ⟨o, nx⟩)) K := by
  refine run_wO (c := Try.f28.body.getD .skip) rfl ?_
  have hin : ∀ p ∈ fs, 0 ≤ p.1 ∧ p.1 < (N : Int) := fun p hp => (hw.free p hp).1
  have h38 := X28_38 S F ss hw.n hw.lf hin
  have hrs : (rowsOf N fs).length = N := rowsOf_length _ _
  have hsum : l.length + ((rowsOf N fs).map List.length).sum ≤ 1000000 := by rw [rows_sum hin]; have := hw.lf; omega
  have hN := hw.n
  simp only [Try.f28, Option.getD_some]
  simp (disch := omega) only [go_sem, ↓IntWalk.iteOmega, IntWalk.toNatUp, Nat.reduceEqDiff, Nat.reduceAdd, Nat.reduceMul, Nat.reduceSub, Nat.reduceLT, Nat.reduceLeDiff, Int.reduceToNat, Int.reduceLT, Int.reduceLE, Int.reduceEq, Int.reduceAdd, Int.reduceSub, Int.reduceMul, Int.toNat_natCast, reduceCtorEq, decide_true, decide_false, IntWalk.i64_in, IntWalk.u64_in, IntWalk.u8_in, h38, mdc_close, mdc_closing]
  refine crC_call (by omega) N (by omega) _ hrs l (by simp (disch := omega) only [upd_fst]; exact ho9) hsum fun v o' nx' hle hS hf hk => ?_
  have hok := hS.ok
  simp (disch := omega) only [go_sem, ↓IntWalk.iteOmega, IntWalk.toNatUp, Nat.reduceEqDiff, Nat.reduceAdd, Nat.reduceMul, Nat.reduceSub, Nat.reduceLT, Nat.reduceLeDiff, Int.reduceToNat, Int.reduceLT, Int.reduceLE, Int.reduceEq, Int.reduceAdd, Int.reduceSub, Int.reduceMul, Int.toNat_natCast, reduceCtorEq, decide_true, decide_false, IntWalk.i64_in, IntWalk.u64_in, IntWalk.u8_in, hok]
  refine h v o' nx' (by omega) hS (fun j g m hj => ?_) (fun i k hi => ?_)
  · have := hf j g m hj; omega
  · rw [hk i k (by omega)]
    exact Kept.upd (n := nx) (fun i k _ => rfl) (Nat.le_refl _) i k hi
/-- What Close is called with here. -/
def CloseArgs (args : List AV) (H : AH) : Prop := ∃ (N : Nat) (S F : Int) (ss : List (Int × Int × Int)) (fs : List (Int × Int)) (l : List Int) (i9 : Nat) (g9 : Tag), Wf N S F ss fs ∧ l.length ≤ 900000 ∧ i9 < H.nx ∧ H.o (i9, 20) = some (.row ⟨3, 1, g9, false, true, cI l⟩) ∧ args = [nfaV N S F ss fs, .ref (i9, 20) g9 0 l.length]
open Classical in
noncomputable def crD : CallR := tabLookR [(28, fun args H => if CloseArgs args H then runP (EX mdc X28) crC 2 (fun _ => none) Try.f28 args H else none)]
theorem crD_ok : CRSound Try.prog crD ∧ Up crD := by
  refine tabR_cons (tabR_nil _) (fun args H v H' h => ?_) (fun _ args H v H' h t ht => ?_)
  · split at h
    · rename_i hn
      obtain ⟨N, S, F, ss, fs, l, i9, g9, _, _, _, _, rfl⟩ := hn
      exact okR_run (E := EX mdc X28) X28_ok crC_ok.1 crC_ok.2 mixed Try.func28 (look28c _) h
    · cases h
  · split at h
    · rename_i hn
      obtain ⟨N, S, F, ss, fs, l, i9, g9, hw, hl, hi9, ho9, rfl⟩ := hn
      have := crD_run (o := H.o) (nx := H.nx) (K := fun p => Kept H.nx H.o p.2.o) hi9 hw l ho9 hl (fun v o' nx' _ _ _ hk => hk)
      rw [h] at this
      exact this t.1 t.2 ht
    · cases h
theorem crD_call {o : Ob} {nx i9 : Nat} {g9 : Tag} (hi9 : i9 < nx) {K : AV × AH → Prop} {N : Nat} {S F : Int} {ss : List (Int × Int × Int)} {fs : List (Int × Int)} (hw : Wf N S F ss fs) (l : List Int) (ho9 : o (i9, 20) = some (.row ⟨3, 1, g9, false, true, cI l⟩)) (hl : l.length ≤ 900000)
    (h : ∀ v o' nx', nx ≤ nx' → HS 3 1 76 o' nx' v (idxs (closeB N (rowsOf N fs) l)).length (cI (idxs (closeB N (rowsOf N fs) l))) → (∀ j g m, v = .ref (j, 76) g 0 m → nx ≤ j) → Kept nx o o' → K (v, ⟨o', nx'⟩)) :
    wO (Option.map (fun p => freezeR false p.1 p.2) (crD 28 [nfaV N S F ss fs, .ref (i9, 20) g9 0 l.length] ⟨o, nx⟩)) K := by
  have e : crD 28 [nfaV N S F ss fs, .ref (i9, 20) g9 0 l.length] ⟨o, nx⟩ = runP (EX mdc X28) crC 2 (fun _ => none) Try.f28 [nfaV N S F ss fs, .ref (i9, 20) g9 0 l.length] ⟨o, nx⟩ := by
    exact if_pos (⟨N, S, F, ss, fs, l, i9, g9, hw, hl, hi9, ho9, rfl⟩ : CloseArgs _ _)
  rw [e]
  exact crD_run hi9 hw l ho9 hl h
end Go.Proofs.Ytcaemgpificohaa.A
namespace Go.Proofs.Ytcaemgpificohaa.A
open Go
set_option maxRecDepth 20000
theorem ft_guard {E : Env} {st : Nat} {ops : Array Oper} {a : AAct} {H : AH} (d op ty p af g) (h : wantedA ops a ⟨d, op, ty, p, af, some g⟩ = some true) : foot E st ops ⟨d, op, ty, p, af, some g⟩ a H = foot E st ops ⟨d, op, ty, p, af, none⟩ a H := by
  unfold foot
  rw [if_pos h]
  rfl
def nzOwn (id : Nat) : Option (List (Nat × Nat)) := if id = 11 then some [(11, 12)] else none
def RSameN (args : List AV) (r : AV) : Prop := ∃ (N S F : Int) (ss : List (Int × Int × Int)) (fs : List (Int × Int)), ss.length ≤ 100000 ∧ fs.length ≤ 100000 ∧ args = [nfaV N S F ss fs, nfaV N S F ss fs] ∧ r = .bool true
theorem RSameN_fn : Fun1 RSameN := by
  rintro args r r' ⟨N, S, F, ss, fs, _, _, _, rfl⟩ ⟨N', S', F', ss', fs', _, _, _, rfl⟩
  rfl
theorem RSameN_ok (args r) (h : RSameN args r) : Ok Try.prog 17 args r := by obtain ⟨N, S, F, ss, fs, h1, h2, rfl, rfl⟩ := h; exact same_ok N S F ss fs h1 h2
noncomputable def XOw : FuncId → List AV → Option AV := tabLook [(12, tRel RKnown), (23, tRel RMake), (27, tRel RInts), (20, tRel RRun), (17, tRel RSameN), (29, tRel RClose)]
theorem XOw_ok : CPSound Try.prog XOw := tab_cons (tab_cons (tab_cons (tab_cons (tab_cons (tab_cons (tab_nil _) (tRel_ok RClose_ref)) (tRel_ok RSameN_ok)) (tRel_ok RRun_nfa)) (tRel_ok RInts_ok)) (tRel_ok RMake_ok)) (tRel_ok RKnown_ok)
theorem XOw_known : XOw 12 [] = some (.bool true) := tRel_eq (R := RKnown) RKnown_fn ⟨rfl, rfl⟩
theorem XOw_make (size : Int) (ns : List Int) (start end_ : Int) : XOw 23 [.int .i64 size, slI ns, .int .i64 start, .int .i64 end_] = some (madeV size ns start end_) := tRel_eq (R := RMake) RMake_fn ⟨_, _, _, _, rfl, rfl⟩
theorem XOw_ints (x y : List Int) (h : x.length ≤ 1000000) : XOw 27 [slI x, slI y] = some (.bool (decide (x = y))) := tRel_eq (R := RInts) RInts_fn ⟨_, _, h, rfl, rfl⟩
theorem XOw_run {N : Nat} {S F : Int} {ss fs} (hw : Wf N S F ss fs) (w : List Int) (h : w.length ≤ 1000000) : XOw 20 [nfaV N S F ss fs, slI w] = some (.bool (runB N S F ss fs w)) := tRel_eq (R := RRun) RRun_fn ⟨_, _, _, _, _, _, hw, h, rfl, rfl⟩
theorem XOw_rclose {N : Nat} {S F : Int} {ss fs} (hw : Wf N S F ss fs) (l : List Int) (h : l.length ≤ 900000) : XOw 29 [nfaV N S F ss fs, slI l] = some (slI (idxs (closeB N (rowsOf N fs) l))) := tRel_eq (R := RClose) RClose_fn ⟨_, _, _, _, _, _, hw, h, rfl, rfl⟩
theorem XOw_same {N S F ss fs} (h1 : ss.length ≤ 100000) (h2 : fs.length ≤ 100000) : XOw 17 [nfaV N S F ss fs, nfaV N S F ss fs] = some (.bool true) := tRel_eq (R := RSameN) RSameN_fn ⟨_, _, _, _, _, h1, h2, rfl, rfl⟩
theorem lookOwn : lookedAt (EX mdd XOw) nzOwn 3 Try.f11 = true := by kernel_rfl
theorem own_ok (size : Int) (ns : List Int) (by_ : Int) : Ok Try.prog 11 [.int .i64 size, slI ns, .int .i64 by_] (.bool true) := by
  refine ok_of_WP (E := EX mdd XOw) (cr := crD) XOw_ok crD_ok mixed (k := 1002) Try.func11 lookOwn rfl ?_
  have hw := make_wf size ns 0 1
  have hkn := XOw_known
  have hmk := XOw_make size ns 0 1
  have hN := sizeN_in size
  simp only [Try.f11, Option.getD_some]
  unfold madeV at hmk
  generalize sizeN size = N at *
  generalize (0 : Int) % (N : Int) = S at *
  generalize (1 : Int) % (N : Int) = F at *
  generalize stepsOf N (ns.take 14) = ss at *
  generalize freesOf N (ns.take 14) = fs at *
  simp (disch := omega) only [go_sem, ↓IntWalk.iteOmega, IntWalk.toNatUp, Nat.reduceEqDiff, Nat.reduceAdd, Nat.reduceMul, Nat.reduceSub, Nat.reduceLT, Nat.reduceLeDiff, Int.reduceToNat, Int.reduceLT, Int.reduceLE, Int.reduceEq, Int.reduceAdd, Int.reduceSub, Int.reduceMul, Int.toNat_natCast, reduceCtorEq, decide_true, decide_false, IntWalk.i64_in, IntWalk.u64_in, IntWalk.u8_in, hkn, hmk, mdd_close, mdd_law6_known, mdd_law6_Make]
  have hrow0 : [AV.int .i64 0, .int .i64 0, .int .i64 5] = cI [0, 0, 5] := rfl
  refine crD_call (by omega) hw [0, 0, 5] (by rw [← hrow0]; exact upd_same _ _ _) (by simp) fun v o1 nx1 hle hS hf hk => ?_
  have o7 := hk 2 7 (by omega)
  have o8 := hk 2 8 (by omega)
  have o20 := hk 3 20 (by omega)
  simp only [upd_app, if_true, if_false, Nat.reduceEqDiff] at o7 o8 o20
  have hok := hS.ok
  simp (disch := omega) only [go_sem, ↓IntWalk.iteOmega, IntWalk.toNatUp, Nat.reduceEqDiff, Nat.reduceAdd, Nat.reduceMul, Nat.reduceSub, Nat.reduceLT, Nat.reduceLeDiff, Int.reduceToNat, Int.reduceLT, Int.reduceLE, Int.reduceEq, Int.reduceAdd, Int.reduceSub, Int.reduceMul, Int.toNat_natCast, reduceCtorEq, decide_true, decide_false, IntWalk.i64_in, IntWalk.u64_in, IntWalk.u8_in, hok]
  obtain ⟨il, hil⟩ : ∃ il, il = idxs (closeB N (rowsOf N fs) [0, 0, 5]) := ⟨_, rfl⟩
  have hill : il.length ≤ 1000 := by rw [hil]; have := idxs_le (closeB N (rowsOf N fs) [0, 0, 5]); rw [closeB_length] at this; have := hw.n; omega
  rw [← hil] at hS
  refine WP_loop (fun m a o nx => ∃ i : Nat, i ≤ il.length ∧ m = il.length - i ∧ nx1 ≤ nx ∧ a 2 = .int .i64 by_ ∧ a 7 = .ptr (2, 7) (2, 7) 0 ∧ a 8 = .ptr (2, 8) (2, 8) 0 ∧ a 9 = .ref (3, 20) (3, 20) 0 3 ∧ a 10 = v ∧ a 11 = .int .i64 i ∧
    o (2, 7) = some (.row ⟨28, 1, (2, 7), false, true, [.int .i64 N, .int .i64 S, .int .i64 F, .sl ss.length (cS ss), .sl fs.length (cP fs)]⟩) ∧ o (2, 8) = some (.row ⟨28, 1, (2, 8), false, true, [.int .i64 N, .int .i64 S, .int .i64 F, .sl ss.length (cS ss), .sl fs.length (cP fs)]⟩) ∧
    o (3, 20) = some (.row ⟨3, 1, (3, 20), false, true, cI [0, 0, 5]⟩) ∧ ((v = .nil ∧ il.length = 0) ∨ ∃ j g lst, v = .ref (j, 76) g 0 il.length ∧ lst.length = il.length ∧ o (j, 76) = some (.row ⟨3, 1, g, false, true, cI lst⟩))) il.length (by omega) ⟨0, by omega, by omega, by omega, by simp (disch := omega) only [go_sem, ↓IntWalk.iteOmega, IntWalk.toNatUp, Nat.reduceEqDiff, Nat.reduceAdd, Nat.reduceMul, Nat.reduceSub, Nat.reduceLT, Nat.reduceLeDiff, Int.reduceToNat, Int.reduceLT, Int.reduceLE, Int.reduceEq, Int.reduceAdd, Int.reduceSub, Int.reduceMul, Int.toNat_natCast, reduceCtorEq, decide_true, decide_false, IntWalk.i64_in, IntWalk.u64_in, IntWalk.u8_in], by simp (disch := omega) only [go_sem, ↓IntWalk.iteOmega, IntWalk.toNatUp, Nat.reduceEqDiff, Nat.reduceAdd, Nat.reduceMul, Nat.reduceSub, Nat.reduceLT, Nat.reduceLeDiff, Int.reduceToNat, Int.reduceLT, Int.reduceLE, Int.reduceEq, Int.reduceAdd, Int.reduceSub, Int.reduceMul, Int.toNat_natCast, reduceCtorEq, decide_true, decide_false, IntWalk.i64_in, IntWalk.u64_in, IntWalk.u8_in], by simp (disch := omega) only [go_sem, ↓IntWalk.iteOmega, IntWalk.toNatUp, Nat.reduceEqDiff, Nat.reduceAdd, Nat.reduceMul, Nat.reduceSub, Nat.reduceLT, Nat.reduceLeDiff, Int.reduceToNat, Int.reduceLT, Int.reduceLE, Int.reduceEq, Int.reduceAdd, Int.reduceSub, Int.reduceMul, Int.toNat_natCast, reduceCtorEq, decide_true, decide_false, IntWalk.i64_in, IntWalk.u64_in, IntWalk.u8_in], by simp (disch := omega) only [go_sem, ↓IntWalk.iteOmega, IntWalk.toNatUp, Nat.reduceEqDiff, Nat.reduceAdd, Nat.reduceMul, Nat.reduceSub, Nat.reduceLT, Nat.reduceLeDiff, Int.reduceToNat, Int.reduceLT, Int.reduceLE, Int.reduceEq, Int.reduceAdd, Int.reduceSub, Int.reduceMul, Int.toNat_natCast, reduceCtorEq, decide_true, decide_false, IntWalk.i64_in, IntWalk.u64_in, IntWalk.u8_in], by simp (disch := omega) only [go_sem, ↓IntWalk.iteOmega, IntWalk.toNatUp, Nat.reduceEqDiff, Nat.reduceAdd, Nat.reduceMul, Nat.reduceSub, Nat.reduceLT, Nat.reduceLeDiff, Int.reduceToNat, Int.reduceLT, Int.reduceLE, Int.reduceEq, Int.reduceAdd, Int.reduceSub, Int.reduceMul, Int.toNat_natCast, reduceCtorEq, decide_true, decide_false, IntWalk.i64_in, IntWalk.u64_in, IntWalk.u8_in], by simp (disch := omega) only [go_sem, ↓IntWalk.iteOmega, IntWalk.toNatUp, Nat.reduceEqDiff, Nat.reduceAdd, Nat.reduceMul, Nat.reduceSub, Nat.reduceLT, Nat.reduceLeDiff, Int.reduceToNat, Int.reduceLT, Int.reduceLE, Int.reduceEq, Int.reduceAdd, Int.reduceSub, Int.reduceMul, Int.toNat_natCast, reduceCtorEq, decide_true, decide_false, IntWalk.i64_in, IntWalk.u64_in, IntWalk.u8_in], by rw [o7], by rw [o8], by rw [o20, hrow0], ?_⟩ ?_
  · rcases hS with ⟨h1, h2, _⟩ | ⟨j, g, h1, _, h2, _⟩
    · exact .inl ⟨h1, h2⟩
    · exact .inr ⟨j, g, il, h1, rfl, h2⟩
  clear hS hf hk o7 o8 o20 hok
  rintro m a o nx ⟨i, hi, rfl, hnx, a2, a7, a8, a9, a10, a11, o7, o8, o20, hv⟩
  by_cases hlt : i < il.length
  · rcases hv with ⟨_, h⟩ | ⟨j, g, lst, rfl, hll, hrow⟩
    · omega
    · have hcs := fun x => cI_set lst i x (by omega)
      simp (disch := omega) only [go_sem, ↓IntWalk.iteOmega, IntWalk.toNatUp, Nat.reduceEqDiff, Nat.reduceAdd, Nat.reduceMul, Nat.reduceSub, Nat.reduceLT, Nat.reduceLeDiff, Int.reduceToNat, Int.reduceLT, Int.reduceLE, Int.reduceEq, Int.reduceAdd, Int.reduceSub, Int.reduceMul, Int.toNat_natCast, reduceCtorEq, decide_true, decide_false, IntWalk.i64_in, IntWalk.u64_in, IntWalk.u8_in, a2, a7, a8, a9, a10, a11, o7, o8, o20, hrow, hcs]
      exact ⟨_, by omega, i + 1, by omega, rfl, by omega, rfl, j, g, lst.set i by_, rfl, (by rw [List.length_set]; exact hll), if_pos rfl⟩
  · have hsl : slI [0, 0, 5] = .sl 3 (cI [0, 0, 5]) := rfl
    have hrun := XOw_run hw [0, 0, 5] (by simp)
    have hsame := XOw_same (N := N) (S := S) (F := F) hw.ls hw.lf
    have hi1 := XOw_ints [0, 0, 5] [0, 0, 5] (by simp)
    have hi2 := XOw_ints il il (by omega)
    have hrc := XOw_rclose hw [0, 0, 5] (by simp)
    rw [← hil] at hrc
    rw [decide_eq_true rfl] at hi1 hi2
    have hlen : aLen Try.prog o 40 v = some (.int .i64 il.length) := by
      rcases hv with ⟨rfl, h⟩ | ⟨j, g, lst, rfl, hll, hrow⟩
      · rw [h]; rfl
      · rfl
    have htk : (cI [0, 0, 5]).take 3 = cI [0, 0, 5] := rfl
    have hcl : (cI [0, 0, 5]).length = 3 := rfl
    rw [hsl] at hrun hi1 hrc
    have hi3 : XOw 27 [.sl 3 (cI [0, 0, 5]), .sl 3 [.int .i64 0, .int .i64 0, .int .i64 5]] = some (.bool true) := hi1
    simp (disch := omega) only [go_sem, ↓IntWalk.iteOmega, IntWalk.toNatUp, Nat.reduceEqDiff, Nat.reduceAdd, Nat.reduceMul, Nat.reduceSub, Nat.reduceLT, Nat.reduceLeDiff, Int.reduceToNat, Int.reduceLT, Int.reduceLE, Int.reduceEq, Int.reduceAdd, Int.reduceSub, Int.reduceMul, Int.toNat_natCast, reduceCtorEq, decide_true, decide_false, IntWalk.i64_in, IntWalk.u64_in, IntWalk.u8_in, a2, a7, a8, a9, a10, a11, o7, o8, o20, hlen, hrun, hsame, hi3, htk, hcl, mdd_nfa_Run, mdd_ref6_Same, mdd_ref1_Ints, mdd_close, nzOwn]
    refine crD_call ?_ hw [0, 0, 5] ?_ (by simp) fun v2 o2 nx2 hle2 hS2 hf2 hk2 => ?_
    · omega
    · simp (disch := omega) only [upd_fst]
      exact o20
    rw [← hil] at hS2
    have hok2 := hS2.ok
    have q7 := hk2 2 7 (by omega)
    have q8 := hk2 2 8 (by omega)
    have q20 := hk2 3 20 (by omega)
    simp (disch := omega) only [upd_fst] at q7 q8 q20
    have vw : ∀ o' : Ob, (∀ i', o' (i', 76) = o2 (i', 76)) → view o' 12 v2 = .sl il.length (cI il) := fun o' h => by have := (hS2.keep (fun i _ => h i) (Nat.le_refl _)).view 11; rwa [view_cI] at this
    have vs : view (sealed [(3, 20)] o2) 12 v2 = .sl il.length (cI il) := vw _ (fun i' => sealed_out (by simp))
    simp (disch := first | omega | (intro _; simp only [upd_app, Nat.reduceEqDiff, if_false])) only [go_sem, ↓IntWalk.iteOmega, IntWalk.toNatUp, Nat.reduceEqDiff, Nat.reduceAdd, Nat.reduceMul, Nat.reduceSub, Nat.reduceLT, Nat.reduceLeDiff, Int.reduceToNat, Int.reduceLT, Int.reduceLE, Int.reduceEq, Int.reduceAdd, Int.reduceSub, Int.reduceMul, Int.toNat_natCast, reduceCtorEq, decide_true, decide_false, IntWalk.i64_in, IntWalk.u64_in, IntWalk.u8_in, vs, a2, a7, a8, a9, a10, a11, o7, o8, o20, q7, q8, q20, hok2, hrc, hi2, htk, hcl, vw, mdd_ref6_Close, mdd_ref1_Ints, nzOwn]
    rw [ft_guard _ _ _ _ _ _ ?_, ft_guard _ _ _ _ _ _ ?_]
    · simp (disch := omega) only [go_sem, ↓IntWalk.iteOmega, IntWalk.toNatUp, Nat.reduceEqDiff, Nat.reduceAdd, Nat.reduceMul, Nat.reduceSub, Nat.reduceLT, Nat.reduceLeDiff, Int.reduceToNat, Int.reduceLT, Int.reduceLE, Int.reduceEq, Int.reduceAdd, Int.reduceSub, Int.reduceMul, Int.toNat_natCast, reduceCtorEq, decide_true, decide_false, IntWalk.i64_in, IntWalk.u64_in, IntWalk.u8_in, a8, mdd_close]
    · unfold wantedA
      simp (disch := omega) only [go_sem, ↓IntWalk.iteOmega, IntWalk.toNatUp, Nat.reduceEqDiff, Nat.reduceAdd, Nat.reduceMul, Nat.reduceSub, Nat.reduceLT, Nat.reduceLeDiff, Int.reduceToNat, Int.reduceLT, Int.reduceLE, Int.reduceEq, Int.reduceAdd, Int.reduceSub, Int.reduceMul, Int.toNat_natCast, reduceCtorEq, decide_true, decide_false, IntWalk.i64_in, IntWalk.u64_in, IntWalk.u8_in]
    · unfold wantedA
      simp (disch := omega) only [go_sem, ↓IntWalk.iteOmega, IntWalk.toNatUp, Nat.reduceEqDiff, Nat.reduceAdd, Nat.reduceMul, Nat.reduceSub, Nat.reduceLT, Nat.reduceLeDiff, Int.reduceToNat, Int.reduceLT, Int.reduceLE, Int.reduceEq, Int.reduceAdd, Int.reduceSub, Int.reduceMul, Int.toNat_natCast, reduceCtorEq, decide_true, decide_false, IntWalk.i64_in, IntWalk.u64_in, IntWalk.u8_in]
end Go.Proofs.Ytcaemgpificohaa.A

namespace Go.Proofs.Ytcaemgpificohaa
open Go Go.Proofs.Ytcaemgpificohaa.A
set_option maxRecDepth 100000 in
theorem nfaOwn_lifted (os : Os) (started : os.Started) (H : Type) (enc : TypeId × Value → H) :
    ReturnsInHanded {} Try.checked os 11 .any (Rows.nfaOwnSpec.pre6 enc Try.prog Try.f11 Rows.nfaOwnRow.domain false) (Rows.nfaOwnSpec.post enc Try.prog Try.f11 false true false false) :=
  law_lifted (C := Try.checked) Try.own started (by kernel_rfl) Try.func11
    (ChangeSpec.witness6 (enc := enc) (C := Try.checked) false ⟨#[], #[.int .i64 0, .slice none 0 0, .int .i64 0], []⟩ 8 (by kernel_rfl) (by kernel_rfl) (by kernel_rfl) (by kernel_rfl))
    Try.laidOut (ks := [3, 40]) (by kernel_rfl) (by kernel_rfl) (tb := 4) (by kernel_rfl) (by kernel_rfl) rfl
    (fun ds hds => by
      match ds, hds with
      | [_, _, _], _ => exact ⟨rfl, rfl, rfl⟩)
    (fun xs hxs => by
      rw [show Try.f11.params.toList = [3, 40, 3] from rfl] at hxs
      match xs, hxs with
      | [x1, x2, x3], ⟨h1, h2, h3, _⟩ =>
        obtain ⟨n1, rfl, _⟩ := arg_int (k := .i64) (by kernel_rfl) h1
        obtain ⟨n2, rfl, _⟩ := arg_ints (e := 3) (by kernel_rfl) (by kernel_rfl) h2
        obtain ⟨n3, rfl, _⟩ := arg_int (k := .i64) (by kernel_rfl) h3
        exact own_ok n1 n2 n3)
theorem nfaOwn_holds : Rows.NfaOwnSaid :=
  OpenClaim.holds_of_wide 11 Try.f11 rfl rfl rfl rfl rfl rfl rfl ⟨rfl, rfl, rfl, rfl, rfl⟩ rfl rfl rfl rfl rfl (by kernel_rfl) Try.func11 (by kernel_rfl)
    (of_decide_eq_true (by kernel_rfl)) (by unfold Func.isWrapper; first | (rw [if_pos (by decide +kernel)]; kernel_rfl) | (rw [if_neg (by decide +kernel)]; exact ⟨rfl, rfl⟩))
    (fun os started H enc _ => nfaOwn_lifted os started H enc)
end Go.Proofs.Ytcaemgpificohaa
