/- The table of contracts for the machines' laws. -/
import Derived.Test.YtcaemgpificohaaLB
import Derived.Test.YtcaemgpificohaaC7
set_option linter.unusedVariables false
set_option linter.unusedSimpArgs false
set_option linter.unnecessarySimpa false
namespace Go.Proofs.Ytcaemgpificohaa.A
open Go
set_option maxRecDepth 20000
def RKnown (args : List AV) (r : AV) : Prop := args = [] ∧ r = .bool true
theorem RKnown_fn : Fun1 RKnown := by rintro args r r' ⟨_, rfl⟩ ⟨_, rfl⟩; rfl
theorem RKnown_ok (args r) (h : RKnown args r) : Ok Try.prog 12 args r := by obtain ⟨rfl, rfl⟩ := h; exact known_ok
def RMake (args : List AV) (r : AV) : Prop := ∃ (size : Int) (ns : List Int) (start end_ : Int), args = [.int .i64 size, slI ns, .int .i64 start, .int .i64 end_] ∧ r = madeV size ns start end_
theorem RMake_fn : Fun1 RMake := by
  rintro args r r' ⟨a, b, c, d, rfl, rfl⟩ ⟨a', b', c', d', h, rfl⟩
  simp only [List.cons.injEq, AV.int.injEq, AV.sl.injEq, true_and, and_true] at h
  obtain ⟨h1, ⟨_, h2⟩, h3, h4⟩ := h
  rw [h1, cI_inj h2, h3, h4]
theorem RMake_ok (args r) (h : RMake args r) : Ok Try.prog 23 args r := by obtain ⟨a, b, c, d, rfl, rfl⟩ := h; exact make_ok a b c d
def RWord (args : List AV) (r : AV) : Prop := ∃ (ns : List Int) (most few : Int), (0 ≤ most ∧ most ≤ 1000) ∧ args = [slI ns, .int .i64 most, .int .i64 few] ∧ r = slI (wordOf ns most few)
theorem RWord_fn : Fun1 RWord := by
  rintro args r r' ⟨a, b, c, _, rfl, rfl⟩ ⟨a', b', c', _, h, rfl⟩
  simp only [List.cons.injEq, AV.int.injEq, AV.sl.injEq, true_and, and_true] at h
  obtain ⟨⟨_, h1⟩, h2, h3⟩ := h
  rw [cI_inj h1, h2, h3]
theorem RWord_ok (args r) (h : RWord args r) : Ok Try.prog 19 args r := by obtain ⟨a, b, c, h, rfl, rfl⟩ := h; exact word_ok a b c h
def RInts (args : List AV) (r : AV) : Prop := ∃ x y : List Int, x.length ≤ 1000000 ∧ args = [slI x, slI y] ∧ r = .bool (decide (x = y))
theorem RInts_fn : Fun1 RInts := by
  rintro args r r' ⟨a, b, _, rfl, rfl⟩ ⟨a', b', _, h, rfl⟩
  simp only [List.cons.injEq, AV.sl.injEq, and_true] at h
  rw [cI_inj h.1.2, cI_inj h.2.2]
theorem RInts_ok (args r) (h : RInts args r) : Ok Try.prog 27 args r := by obtain ⟨a, b, h, rfl, rfl⟩ := h; exact ints_ok a b h
/-- Both runs. -/
def RRun (args : List AV) (r : AV) : Prop := ∃ (N : Nat) (S F : Int) (ss : List (Int × Int × Int)) (fs : List (Int × Int)) (w : List Int), Wf N S F ss fs ∧ w.length ≤ 1000000 ∧ args = [nfaV N S F ss fs, slI w] ∧ r = .bool (runB N S F ss fs w)
theorem RRun_fn : Fun1 RRun := by
  rintro args r r' ⟨N, S, F, ss, fs, w, _, _, rfl, rfl⟩ ⟨N', S', F', ss', fs', w', _, _, h, rfl⟩
  simp only [List.cons.injEq, and_true] at h
  obtain ⟨h1, h2, h3, h4, h5⟩ := nfaV_inj h.1
  have h1 : N = N' := by omega
  rw [h1, h2, h3, h4, h5, slI_inj h.2]
theorem RRun_nfa (args r) (h : RRun args r) : Ok Try.prog 20 args r := by obtain ⟨N, S, F, ss, fs, w, h1, h2, rfl, rfl⟩ := h; exact nfaRun_ok N S F ss fs h1 w h2
theorem RRun_ref (args r) (h : RRun args r) : Ok Try.prog 26 args r := by obtain ⟨N, S, F, ss, fs, w, h1, h2, rfl, rfl⟩ := h; exact refRun_ok N S F ss fs h1 w h2
/-- Both closures. -/
def RClose (args : List AV) (r : AV) : Prop := ∃ (N : Nat) (S F : Int) (ss : List (Int × Int × Int)) (fs : List (Int × Int)) (l : List Int), Wf N S F ss fs ∧ l.length ≤ 900000 ∧ args = [nfaV N S F ss fs, slI l] ∧ r = slI (idxs (closeB N (rowsOf N fs) l))
theorem RClose_fn : Fun1 RClose := by
  rintro args r r' ⟨N, S, F, ss, fs, w, _, _, rfl, rfl⟩ ⟨N', S', F', ss', fs', w', _, _, h, rfl⟩
  simp only [List.cons.injEq, and_true] at h
  obtain ⟨h1, h2, h3, h4, h5⟩ := nfaV_inj h.1
  have h1 : N = N' := by omega
  rw [h1, h5, slI_inj h.2]
theorem RClose_nfa (args r) (h : RClose args r) : Ok Try.prog 28 args r := by obtain ⟨N, S, F, ss, fs, w, h1, h2, rfl, rfl⟩ := h; exact nfaClose_ok N h1.n S F ss fs h1.lf (fun p hp => (h1.free p hp).1) w h2
theorem RClose_ref (args r) (h : RClose args r) : Ok Try.prog 29 args r := by obtain ⟨N, S, F, ss, fs, w, h1, h2, rfl, rfl⟩ := h; exact refClose_ok N S F ss fs h1 w h2

noncomputable def XL6 : FuncId → List AV → Option AV := tabLook [(12, tRel RKnown), (23, tRel RMake), (19, tRel RWord), (27, tRel RInts), (20, tRel RRun), (26, tRel RRun), (28, tRel RClose), (29, tRel RClose), (25, tRel RW)]
theorem XL6_ok : CPSound Try.prog XL6 := tab_cons (tab_cons (tab_cons (tab_cons (tab_cons (tab_cons (tab_cons (tab_cons (tab_cons (tab_nil _) (tRel_ok within0_ok)) (tRel_ok RClose_ref)) (tRel_ok RClose_nfa)) (tRel_ok RRun_ref)) (tRel_ok RRun_nfa)) (tRel_ok RInts_ok)) (tRel_ok RWord_ok)) (tRel_ok RMake_ok)) (tRel_ok RKnown_ok)
theorem XL6_known : XL6 12 [] = some (.bool true) := tRel_eq (R := RKnown) RKnown_fn ⟨rfl, rfl⟩
theorem XL6_make (size : Int) (ns : List Int) (start end_ : Int) : XL6 23 [.int .i64 size, slI ns, .int .i64 start, .int .i64 end_] = some (madeV size ns start end_) := tRel_eq (R := RMake) RMake_fn ⟨_, _, _, _, rfl, rfl⟩
theorem XL6_word (ns : List Int) (most few : Int) (h : 0 ≤ most ∧ most ≤ 1000) : XL6 19 [slI ns, .int .i64 most, .int .i64 few] = some (slI (wordOf ns most few)) := tRel_eq (R := RWord) RWord_fn ⟨_, _, _, h, rfl, rfl⟩
theorem XL6_ints (x y : List Int) (h : x.length ≤ 1000000) : XL6 27 [slI x, slI y] = some (.bool (decide (x = y))) := tRel_eq (R := RInts) RInts_fn ⟨_, _, h, rfl, rfl⟩
theorem XL6_nrun {N : Nat} {S F : Int} {ss fs} (hw : Wf N S F ss fs) (w : List Int) (h : w.length ≤ 1000000) : XL6 20 [nfaV N S F ss fs, slI w] = some (.bool (runB N S F ss fs w)) := tRel_eq (R := RRun) RRun_fn ⟨_, _, _, _, _, _, hw, h, rfl, rfl⟩
theorem XL6_rrun {N : Nat} {S F : Int} {ss fs} (hw : Wf N S F ss fs) (w : List Int) (h : w.length ≤ 1000000) : XL6 26 [nfaV N S F ss fs, slI w] = some (.bool (runB N S F ss fs w)) := tRel_eq (R := RRun) RRun_fn ⟨_, _, _, _, _, _, hw, h, rfl, rfl⟩
theorem XL6_nclose {N : Nat} {S F : Int} {ss fs} (hw : Wf N S F ss fs) (l : List Int) (h : l.length ≤ 900000) : XL6 28 [nfaV N S F ss fs, slI l] = some (slI (idxs (closeB N (rowsOf N fs) l))) := tRel_eq (R := RClose) RClose_fn ⟨_, _, _, _, _, _, hw, h, rfl, rfl⟩
theorem XL6_rclose {N : Nat} {S F : Int} {ss fs} (hw : Wf N S F ss fs) (l : List Int) (h : l.length ≤ 900000) : XL6 29 [nfaV N S F ss fs, slI l] = some (slI (idxs (closeB N (rowsOf N fs) l))) := tRel_eq (R := RClose) RClose_fn ⟨_, _, _, _, _, _, hw, h, rfl, rfl⟩
theorem XL6_within (a n : Int) (h1 : 0 < n) (h2 : n ≤ 1000000) : XL6 25 [.int .i64 a, .int .i64 n] = some (.int .i64 (a % n)) := rw_eq h1 h2
theorem wordOf_le (ns : List Int) (most few : Int) : (wordOf ns most few).length ≤ most.toNat := by rw [wordOf, List.length_map, List.length_take]; omega
end Go.Proofs.Ytcaemgpificohaa.A
