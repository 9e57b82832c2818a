/- NfaRuns answers true for whatever it is called with; the input reads as it did. -/
import Derived.Test.YtcaemgpificohaaLB
import Derived.Test.YtcaemgpificohaaC7
set_option linter.unusedVariables false
set_option linter.unusedSimpArgs false
set_option linter.unnecessarySimpa false
namespace Go.Proofs.Ytcaemgpificohaa.A
open Go
set_option maxRecDepth 20000
def RKnown (args : List AV) (r : AV) : Prop := args = [] ∧ r = .bool true
theorem RKnown_fn : Fun1 RKnown := by rintro args r r' ⟨_, rfl⟩ ⟨_, rfl⟩; rfl
theorem RKnown_ok (args r) (h : RKnown args r) : Ok Try.prog 12 args r := by obtain ⟨rfl, rfl⟩ := h; exact known_ok
def RMake (args : List AV) (r : AV) : Prop := ∃ (size : Int) (ns : List Int) (start end_ : Int), args = [.int .i64 size, slI ns, .int .i64 start, .int .i64 end_] ∧ r = madeV size ns start end_
theorem RMake_fn : Fun1 RMake := by
  rintro args r r' ⟨a, b, c, d, rfl, rfl⟩ ⟨a', b', c', d', h, rfl⟩
  simp only [List.cons.injEq, AV.int.injEq, AV.sl.injEq, true_and, and_true] at h
  obtain ⟨h1, ⟨_, h2⟩, h3, h4⟩ := h
  rw [h1, cI_inj h2, h3, h4]
theorem RMake_ok (args r) (h : RMake args r) : Ok Try.prog 23 args r := by obtain ⟨a, b, c, d, rfl, rfl⟩ := h; exact make_ok a b c d
def RWord (args : List AV) (r : AV) : Prop := ∃ (ns : List Int) (most few : Int), (0 ≤ most ∧ most ≤ 1000) ∧ args = [slI ns, .int .i64 most, .int .i64 few] ∧ r = slI (wordOf ns most few)
theorem RWord_fn : Fun1 RWord := by
  rintro args r r' ⟨a, b, c, _, rfl, rfl⟩ ⟨a', b', c', _, h, rfl⟩
  simp only [List.cons.injEq, AV.int.injEq, AV.sl.injEq, true_and, and_true] at h
  obtain ⟨⟨_, h1⟩, h2, h3⟩ := h
  rw [cI_inj h1, h2, h3]
theorem RWord_ok (args r) (h : RWord args r) : Ok Try.prog 19 args r := by obtain ⟨a, b, c, h, rfl, rfl⟩ := h; exact word_ok a b c h
def RInts (args : List AV) (r : AV) : Prop := ∃ x y : List Int, x.length ≤ 1000000 ∧ args = [slI x, slI y] ∧ r = .bool (decide (x = y))
theorem RInts_fn : Fun1 RInts := by
  rintro args r r' ⟨a, b, _, rfl, rfl⟩ ⟨a', b', _, h, rfl⟩
  simp only [List.cons.injEq, AV.sl.injEq, and_true] at h
  rw [cI_inj h.1.2, cI_inj h.2.2]
theorem RInts_ok (args r) (h : RInts args r) : Ok Try.prog 27 args r := by obtain ⟨a, b, h, rfl, rfl⟩ := h; exact ints_ok a b h
/-- Both runs. -/
def RRun (args : List AV) (r : AV) : Prop := ∃ (N : Nat) (S F : Int) (ss : List (Int × Int × Int)) (fs : List (Int × Int)) (w : List Int), Wf N S F ss fs ∧ w.length ≤ 1000000 ∧ args = [nfaV N S F ss fs, slI w] ∧ r = .bool (runB N S F ss fs w)
theorem RRun_fn : Fun1 RRun := by
  rintro args r r' ⟨N, S, F, ss, fs, w, _, _, rfl, rfl⟩ ⟨N', S', F', ss', fs', w', _, _, h, rfl⟩
  simp only [List.cons.injEq, and_true] at h
  obtain ⟨h1, h2, h3, h4, h5⟩ := nfaV_inj h.1
  have h1 : N = N' := by omega
  rw [h1, h2, h3, h4, h5, slI_inj h.2]
theorem RRun_nfa (args r) (h : RRun args r) : Ok Try.prog 20 args r := by obtain ⟨N, S, F, ss, fs, w, h1, h2, rfl, rfl⟩ := h; exact nfaRun_ok N S F ss fs h1 w h2
theorem RRun_ref (args r) (h : RRun args r) : Ok Try.prog 26 args r := by obtain ⟨N, S, F, ss, fs, w, h1, h2, rfl, rfl⟩ := h; exact refRun_ok N S F ss fs h1 w h2
/-- Both closures. -/
def RClose (args : List AV) (r : AV) : Prop := ∃ (N : Nat) (S F : Int) (ss : List (Int × Int × Int)) (fs : List (Int × Int)) (l : List Int), Wf N S F ss fs ∧ l.length ≤ 900000 ∧ args = [nfaV N S F ss fs, slI l] ∧ r = slI (idxs (closeB N (rowsOf N fs) l))
theorem RClose_fn : Fun1 RClose := by
  rintro args r r' ⟨N, S, F, ss, fs, w, _, _, rfl, rfl⟩ ⟨N', S', F', ss', fs', w', _, _, h, rfl⟩
  simp only [List.cons.injEq, and_true] at h
  obtain ⟨h1, h2, h3, h4, h5⟩ := nfaV_inj h.1
  have h1 : N = N' := by omega
  rw [h1, h5, slI_inj h.2]
theorem RClose_nfa (args r) (h : RClose args r) : Ok Try.prog 28 args r := by obtain ⟨N, S, F, ss, fs, w, h1, h2, rfl, rfl⟩ := h; exact nfaClose_ok N h1.n S F ss fs h1.lf (fun p hp => (h1.free p hp).1) w h2
theorem RClose_ref (args r) (h : RClose args r) : Ok Try.prog 29 args r := by obtain ⟨N, S, F, ss, fs, w, h1, h2, rfl, rfl⟩ := h; exact refClose_ok N S F ss fs h1 w h2

noncomputable def XL6 : FuncId → List AV → Option AV := tabLook [(12, tRel RKnown), (23, tRel RMake), (19, tRel RWord), (27, tRel RInts), (20, tRel RRun), (26, tRel RRun), (28, tRel RClose), (29, tRel RClose), (25, tRel RW)]
theorem XL6_ok : CPSound Try.prog XL6 := tab_cons (tab_cons (tab_cons (tab_cons (tab_cons (tab_cons (tab_cons (tab_cons (tab_cons (tab_nil _) (tRel_ok within0_ok)) (tRel_ok RClose_ref)) (tRel_ok RClose_nfa)) (tRel_ok RRun_ref)) (tRel_ok RRun_nfa)) (tRel_ok RInts_ok)) (tRel_ok RWord_ok)) (tRel_ok RMake_ok)) (tRel_ok RKnown_ok)
theorem XL6_known : XL6 12 [] = some (.bool true) := tRel_eq (R := RKnown) RKnown_fn ⟨rfl, rfl⟩
theorem XL6_make (size : Int) (ns : List Int) (start end_ : Int) : XL6 23 [.int .i64 size, slI ns, .int .i64 start, .int .i64 end_] = some (madeV size ns start end_) := tRel_eq (R := RMake) RMake_fn ⟨_, _, _, _, rfl, rfl⟩
theorem XL6_word (ns : List Int) (most few : Int) (h : 0 ≤ most ∧ most ≤ 1000) : XL6 19 [slI ns, .int .i64 most, .int .i64 few] = some (slI (wordOf ns most few)) := tRel_eq (R := RWord) RWord_fn ⟨_, _, _, h, rfl, rfl⟩
theorem XL6_ints (x y : List Int) (h : x.length ≤ 1000000) : XL6 27 [slI x, slI y] = some (.bool (decide (x = y))) := tRel_eq (R := RInts) RInts_fn ⟨_, _, h, rfl, rfl⟩
theorem XL6_nrun {N : Nat} {S F : Int} {ss fs} (hw : Wf N S F ss fs) (w : List Int) (h : w.length ≤ 1000000) : XL6 20 [nfaV N S F ss fs, slI w] = some (.bool (runB N S F ss fs w)) := tRel_eq (R := RRun) RRun_fn ⟨_, _, _, _, _, _, hw, h, rfl, rfl⟩
theorem XL6_rrun {N : Nat} {S F : Int} {ss fs} (hw : Wf N S F ss fs) (w : List Int) (h : w.length ≤ 1000000) : XL6 26 [nfaV N S F ss fs, slI w] = some (.bool (runB N S F ss fs w)) := tRel_eq (R := RRun) RRun_fn ⟨_, _, _, _, _, _, hw, h, rfl, rfl⟩
theorem XL6_nclose {N : Nat} {S F : Int} {ss fs} (hw : Wf N S F ss fs) (l : List Int) (h : l.length ≤ 900000) : XL6 28 [nfaV N S F ss fs, slI l] = some (slI (idxs (closeB N (rowsOf N fs) l))) := tRel_eq (R := RClose) RClose_fn ⟨_, _, _, _, _, _, hw, h, rfl, rfl⟩
theorem XL6_rclose {N : Nat} {S F : Int} {ss fs} (hw : Wf N S F ss fs) (l : List Int) (h : l.length ≤ 900000) : XL6 29 [nfaV N S F ss fs, slI l] = some (slI (idxs (closeB N (rowsOf N fs) l))) := tRel_eq (R := RClose) RClose_fn ⟨_, _, _, _, _, _, hw, h, rfl, rfl⟩
theorem XL6_within (a n : Int) (h1 : 0 < n) (h2 : n ≤ 1000000) : XL6 25 [.int .i64 a, .int .i64 n] = some (.int .i64 (a % n)) := rw_eq h1 h2
theorem wordOf_le (ns : List Int) (most few : Int) : (wordOf ns most few).length ≤ most.toNat := by rw [wordOf, List.length_map, List.length_take]; omega

def nzRuns : Nat → Option (List (Nat × Nat))
  | 12 => some [(2, 3)]
  | _ => none
theorem lookRuns : lookedAt (EX md0 XL6) nzRuns 6 Try.f6 = true := by kernel_rfl
theorem runs_ok (size : Int) (ns : List Int) (start end_ : Int) (ws states : List Int) : Ok Try.prog 6 [.int .i64 size, slI ns, .int .i64 start, .int .i64 end_, slI ws, slI states] (.bool true) := by
  refine ok_of_WP (E := EX md0 XL6) (cr := noR) XL6_ok (noR_ok _) mixed (k := 10) Try.func6 lookRuns rfl ?_
  have hw := make_wf size ns start end_
  have hkn := XL6_known
  have hmk := XL6_make size ns start end_
  have hwd := fun most => XL6_word ws most 4
  have hnr := XL6_nrun hw
  have hrr := XL6_rrun hw
  have hnc := XL6_nclose hw states
  have hrc := XL6_rclose hw states
  have hii := XL6_ints (idxs (closeB (sizeN size) (rowsOf (sizeN size) (freesOf (sizeN size) (ns.take 14))) states)) (idxs (closeB (sizeN size) (rowsOf (sizeN size) (freesOf (sizeN size) (ns.take 14))) states)) (by have := idxs_le (closeB (sizeN size) (rowsOf (sizeN size) (freesOf (sizeN size) (ns.take 14))) states); rw [closeB_length] at this; have := (sizeN_in size).2; omega)
  simp only [Try.f6, Option.getD_some]
  unfold madeV at hmk
  generalize sizeN size = N at *
  generalize start % (N : Int) = S at *
  generalize end_ % (N : Int) = F at *
  generalize stepsOf N (ns.take 14) = ss at *
  generalize freesOf N (ns.take 14) = fs at *
  by_cases hl : states.length ≤ 30
  · simp (disch := omega) only [go_sem, ↓IntWalk.iteOmega, IntWalk.toNatUp, Nat.reduceEqDiff, Nat.reduceAdd, Nat.reduceMul, Nat.reduceSub, Nat.reduceLT, Nat.reduceLeDiff, Int.reduceToNat, Int.reduceLT, Int.reduceLE, Int.reduceEq, Int.reduceAdd, Int.reduceSub, Int.reduceMul, Int.toNat_natCast, reduceCtorEq, decide_true, decide_false, IntWalk.i64_in, IntWalk.u64_in, IntWalk.u8_in, hkn, hmk]
    refine WP_loop (fun m a o nx => ∃ i, i ≤ 8 ∧ m = 8 - i ∧ 4 ≤ nx ∧ a 4 = slI ws ∧ a 5 = slI states ∧ a 13 = .ptr (3, 13) (3, 13) 0 ∧ a 14 = .int .i64 i ∧ o (3, 13) = some (.row ⟨28, 1, (3, 13), false, true, [.int .i64 N, .int .i64 S, .int .i64 F, .sl ss.length (cS ss), .sl fs.length (cP fs)]⟩)) 8 ?_ ?_ ?_
    · omega
    · refine ⟨0, by omega, by omega, by omega, ?_⟩
      simp (disch := omega) only [go_sem, ↓IntWalk.iteOmega, IntWalk.toNatUp, Nat.reduceEqDiff, Nat.reduceAdd, Nat.reduceMul, Nat.reduceSub, Nat.reduceLT, Nat.reduceLeDiff, Int.reduceToNat, Int.reduceLT, Int.reduceLE, Int.reduceEq, Int.reduceAdd, Int.reduceSub, Int.reduceMul, Int.toNat_natCast, reduceCtorEq, decide_true, decide_false, IntWalk.i64_in, IntWalk.u64_in, IntWalk.u8_in]
    · rintro m a o nx ⟨i, hi, rfl, hnx, h4, h5, h13, h14, ho13⟩
      by_cases hlt : i < 8
      · have hwl := wordOf_le ws i 4
        have hr1 := hnr (wordOf ws i 4) (by omega)
        have hr2 := hrr (wordOf ws i 4) (by omega)
        simp (disch := omega) only [go_sem, ↓IntWalk.iteOmega, IntWalk.toNatUp, Nat.reduceEqDiff, Nat.reduceAdd, Nat.reduceMul, Nat.reduceSub, Nat.reduceLT, Nat.reduceLeDiff, Int.reduceToNat, Int.reduceLT, Int.reduceLE, Int.reduceEq, Int.reduceAdd, Int.reduceSub, Int.reduceMul, Int.toNat_natCast, reduceCtorEq, decide_true, decide_false, IntWalk.i64_in, IntWalk.u64_in, IntWalk.u8_in, h4, h5, h13, h14, ho13, hwd, hr1, hr2, nzRuns, beq_self_eq_true]
        exact ⟨_, by omega, i + 1, by omega, rfl, rfl⟩
      · have hr1 := hnr states (by omega)
        have hr2 := hrr states (by omega)
        simp (disch := omega) only [go_sem, ↓IntWalk.iteOmega, IntWalk.toNatUp, Nat.reduceEqDiff, Nat.reduceAdd, Nat.reduceMul, Nat.reduceSub, Nat.reduceLT, Nat.reduceLeDiff, Int.reduceToNat, Int.reduceLT, Int.reduceLE, Int.reduceEq, Int.reduceAdd, Int.reduceSub, Int.reduceMul, Int.toNat_natCast, reduceCtorEq, decide_true, decide_false, IntWalk.i64_in, IntWalk.u64_in, IntWalk.u8_in, h4, h5, h13, h14, ho13, hnc, hrc, hii, hr1, hr2, nzRuns, beq_self_eq_true]
  · have hl2 : (30 : Int) < states.length := by omega
    simp (disch := omega) only [go_sem, ↓IntWalk.iteOmega, IntWalk.toNatUp, Nat.reduceEqDiff, Nat.reduceAdd, Nat.reduceMul, Nat.reduceSub, Nat.reduceLT, Nat.reduceLeDiff, Int.reduceToNat, Int.reduceLT, Int.reduceLE, Int.reduceEq, Int.reduceAdd, Int.reduceSub, Int.reduceMul, Int.toNat_natCast, reduceCtorEq, decide_true, decide_false, IntWalk.i64_in, IntWalk.u64_in, IntWalk.u8_in, hkn, hmk, hl2]
end Go.Proofs.Ytcaemgpificohaa.A

namespace Go.Proofs.Ytcaemgpificohaa
open Go Go.Proofs.Ytcaemgpificohaa.A
set_option maxRecDepth 100000 in
theorem nfaRuns_lifted (os : Os) (started : os.Started) (H : Type) (enc : TypeId × Value → H) :
    ReturnsInHanded {} Try.checked os 6 .any (Rows.nfaRunsSpec.pre6 enc Try.prog Try.f6 Rows.nfaRunsRow.domain false) (Rows.nfaRunsSpec.post enc Try.prog Try.f6 false true false false) :=
  law_lifted (C := Try.checked) Try.own started (by kernel_rfl) Try.func6
    (ChangeSpec.witness6 (enc := enc) (C := Try.checked) false ⟨#[], #[.int .i64 0, .slice none 0 0, .int .i64 0, .int .i64 0, .slice none 0 0, .slice none 0 0], []⟩ 8 (by kernel_rfl) (by kernel_rfl) (by kernel_rfl) (by kernel_rfl))
    Try.laidOut (ks := [3, 40]) (by kernel_rfl) (by kernel_rfl) (tb := 4) (by kernel_rfl) (by kernel_rfl) rfl
    (fun ds hds => by
      match ds, hds with
      | [_, _, _, _, _, _], _ => exact ⟨rfl, rfl, rfl⟩)
    (fun xs hxs => by
      rw [show Try.f6.params.toList = [3, 40, 3, 3, 40, 40] from rfl] at hxs
      match xs, hxs with
      | [x1, x2, x3, x4, x5, x6], ⟨h1, h2, h3, h4, h5, h6, _⟩ =>
        obtain ⟨n1, rfl, _⟩ := arg_int (k := .i64) (by kernel_rfl) h1
        obtain ⟨n2, rfl, _⟩ := arg_ints (e := 3) (by kernel_rfl) (by kernel_rfl) h2
        obtain ⟨n3, rfl, _⟩ := arg_int (k := .i64) (by kernel_rfl) h3
        obtain ⟨n4, rfl, _⟩ := arg_int (k := .i64) (by kernel_rfl) h4
        obtain ⟨n5, rfl, _⟩ := arg_ints (e := 3) (by kernel_rfl) (by kernel_rfl) h5
        obtain ⟨n6, rfl, _⟩ := arg_ints (e := 3) (by kernel_rfl) (by kernel_rfl) h6
        exact runs_ok n1 n2 n3 n4 n5 n6)
theorem nfaRuns_holds : Rows.NfaRunsSaid :=
  OpenClaim.holds_of_wide 6 Try.f6 rfl rfl rfl rfl rfl rfl rfl ⟨rfl, rfl, rfl, rfl, rfl⟩ rfl rfl rfl rfl rfl (by kernel_rfl) Try.func6 (by kernel_rfl)
    (of_decide_eq_true (by kernel_rfl)) (by unfold Func.isWrapper; first | (rw [if_pos (by decide +kernel)]; kernel_rfl) | (rw [if_neg (by decide +kernel)]; exact ⟨rfl, rfl⟩))
    (fun os started H enc _ => nfaRuns_lifted os started H enc)
end Go.Proofs.Ytcaemgpificohaa
#print axioms Go.Proofs.Ytcaemgpificohaa.nfaRuns_holds
