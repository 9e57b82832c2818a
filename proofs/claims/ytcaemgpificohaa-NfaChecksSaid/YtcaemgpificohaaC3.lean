/- nfa.Close, nfa.Run: contracts. -/
import Derived.Test.YtcaemgpificohaaC2
set_option linter.unusedVariables false
set_option linter.unusedSimpArgs false
set_option linter.unnecessarySimpa false
namespace Go.Proofs.Ytcaemgpificohaa.A
open Go
set_option maxRecDepth 20000
/-! ### relations -/
def R38 (args : List AV) (r : AV) : Prop := ∃ (N : Nat) (S F : Int) (ss : List (Int × Int × Int)) (fs : List (Int × Int)), N ≤ 1000 ∧ fs.length ≤ 100000 ∧ (∀ p ∈ fs, 0 ≤ p.1 ∧ p.1 < (N : Int)) ∧ args = [nfaV N S F ss fs] ∧ r = closerV N (rowsOf N fs)
def R39 (args : List AV) (r : AV) : Prop := ∃ (N : Nat) (rows : List (List Int)) (l : List Int), N ≤ 100000 ∧ rows.length = N ∧ l.length + (rows.map List.length).sum ≤ 1000000 ∧ args = [closerV N rows, slI l] ∧ r = slI (idxs (closeB N rows l))
theorem R38_fn : Fun1 R38 := by
  rintro args r r' ⟨N, S, F, ss, fs, _, _, _, rfl, rfl⟩ ⟨N', S', F', ss', fs', _, _, _, h, rfl⟩
  simp only [nfaV, List.cons.injEq, AV.agg.injEq, AV.int.injEq, AV.sl.injEq, true_and, and_true] at h
  obtain ⟨h1, _, _, _, _, h2⟩ := h
  have h1 : N = N' := by omega
  rw [h1, cP_inj h2]
theorem R39_fn : Fun1 R39 := by
  rintro args r r' ⟨N, rows, l, _, _, _, rfl, rfl⟩ ⟨N', rows', l', _, _, _, h, rfl⟩
  simp only [closerV, List.cons.injEq, AV.agg.injEq, AV.int.injEq, AV.sl.injEq, true_and, and_true] at h
  obtain ⟨⟨h1, _, h2⟩, _, h3⟩ := h
  have h1 : N = N' := by omega
  rw [h1, slIs_inj h2, cI_inj h3]
theorem R38_ok (args r) (h : R38 args r) : Ok Try.prog 38 args r := by
  obtain ⟨N, S, F, ss, fs, h1, h2, h3, rfl, rfl⟩ := h
  exact closing_ok N S F h1 ss fs h2 h3
theorem R39_ok (args r) (h : R39 args r) : Ok Try.prog 39 args r := by
  obtain ⟨N, rows, l, h1, h2, h3, rfl, rfl⟩ := h
  exact close_ok N h1 rows h2 l h3
theorem rows_sum {N : Nat} {fs : List (Int × Int)} (h : ∀ p ∈ fs, 0 ≤ p.1 ∧ p.1 < (N : Int)) : ((rowsOf N fs).map List.length).sum = fs.length := by
  have key : ∀ (l : List (Int × Int)) (rows : List (List Int)), rows.length = N → (∀ p ∈ l, 0 ≤ p.1 ∧ p.1 < (N : Int)) → ((l.foldl rowAdd rows).map List.length).sum = (rows.map List.length).sum + l.length := fun l => by
    induction l with
    | nil => intro rows _ _; simp
    | cons p l ih =>
      intro rows hl hp
      have hp0 := hp p (List.mem_cons_self ..)
      have hlt : p.1.toNat < rows.length := by omega
      rw [List.foldl_cons, ih _ (by simpa [rowAdd] using hl) (fun q hq => hp q (List.mem_cons_of_mem _ hq))]
      have : ((rowAdd rows p).map List.length).sum = (rows.map List.length).sum + 1 := by
        unfold rowAdd
        have e : ∀ (rs : List (List Int)) (i : Nat) (x : List Int), i < rs.length → ((rs.set i x).map List.length).sum + (rs.getD i []).length = (rs.map List.length).sum + x.length := fun rs => by
          induction rs with
          | nil => intro i x h; simp at h
          | cons r rs ih =>
            intro i x h
            cases i with
            | zero => simp [List.getD]; omega
            | succ i =>
              have := ih i x (by simpa using h)
              simp only [List.set_cons_succ, List.map_cons, List.sum_cons, List.getD_cons_succ]
              omega
        have := e rows p.1.toNat (rows.getD p.1.toNat [] ++ [p.2]) hlt
        rw [List.length_append, List.length_singleton] at this
        omega
      rw [this, List.length_cons]; omega
  have := key fs (List.replicate N []) (by simp) h
  simpa [rowsOf] using this

/-! ### Close -/
noncomputable def X28 : FuncId → List AV → Option AV := tabLook [(38, tRel R38), (39, tRel R39)]
theorem X28_ok : CPSound Try.prog X28 := tab_cons (tab_cons (tab_nil _) (tRel_ok R39_ok)) (tRel_ok R38_ok)
theorem X28_38 {N : Nat} (S F : Int) (ss) {fs : List (Int × Int)} (hN : N ≤ 1000) (hfs : fs.length ≤ 100000) (hin : ∀ p ∈ fs, 0 ≤ p.1 ∧ p.1 < (N : Int)) : X28 38 [nfaV N S F ss fs] = some (closerV N (rowsOf N fs)) := by
  show tRel R38 _ = _
  exact tRel_eq R38_fn ⟨N, S, F, ss, fs, hN, hfs, hin, rfl, rfl⟩
theorem X28_39 {N : Nat} {fs : List (Int × Int)} (hN : N ≤ 1000) (hfs : fs.length ≤ 100000) (hin : ∀ p ∈ fs, 0 ≤ p.1 ∧ p.1 < (N : Int)) (l : List Int) (hl : l.length ≤ 900000) : X28 39 [closerV N (rowsOf N fs), slI l] = some (slI (idxs (closeB N (rowsOf N fs) l))) := by
  show tRel R39 _ = _
  exact tRel_eq R39_fn ⟨N, rowsOf N fs, l, by omega, rowsOf_length _ _, by rw [rows_sum hin]; omega, rfl, rfl⟩
theorem look28 (X) : lookedAt (EX md0 X) (fun _ => none) 2 Try.f28 = true := by kernel_rfl
theorem nfaClose_ok (N : Nat) (hN : N ≤ 1000) (S F : Int) (ss) (fs : List (Int × Int)) (hfs : fs.length ≤ 100000) (hin : ∀ p ∈ fs, 0 ≤ p.1 ∧ p.1 < (N : Int)) (l : List Int) (hl : l.length ≤ 900000) : Ok Try.prog 28 [nfaV N S F ss fs, slI l] (slI (idxs (closeB N (rowsOf N fs) l))) := by
  refine ok_of_WP (E := EX md0 X28) (cr := noR) X28_ok (noR_ok _) mixed (k := 0) Try.func28 (look28 _) rfl ?_
  have h38 := X28_38 S F ss hN hfs hin
  have h39 := X28_39 hN hfs hin l hl
  simp only [Try.f28, Option.getD_some]
  simp (disch := omega) only [go_sem, ↓IntWalk.iteOmega, IntWalk.toNatUp, Nat.reduceEqDiff, Nat.reduceAdd, Nat.reduceMul, Nat.reduceSub, Nat.reduceLT, Nat.reduceLeDiff, Int.reduceToNat, Int.reduceLT, Int.reduceLE, Int.reduceEq, Int.reduceAdd, Int.reduceSub, Int.reduceMul, Int.toNat_natCast, reduceCtorEq, decide_true, decide_false, IntWalk.i64_in, IntWalk.u64_in, IntWalk.u8_in, begin_, h38, h39]

/-! ### Run -/
/-- Is a mode one of a set's? -/
def hasMode (set m : Int) : Bool := decide (andI .i64 (set.fdiv (2 ^ min m.toNat 64)) 1 = 1)
/-- Does a step lead on by a mode, from states? -/
def leads (b : List Bool) (m : Int) (s : Int × Int × Int) : Bool := b.getD s.1.toNat false && (decide (0 ≤ m) && decide (m < 5) && hasMode s.2.2 m)
def nextOf (ss : List (Int × Int × Int)) (b : List Bool) (m : Int) : List Int := (ss.filter (leads b m)).map (·.2.1)
noncomputable def stepB (N : Nat) (rows : List (List Int)) (ss : List (Int × Int × Int)) (b : List Bool) (m : Int) : List Bool := closeB N rows (nextOf ss b m)
noncomputable def setB (N : Nat) (S : Int) (ss : List (Int × Int × Int)) (fs : List (Int × Int)) (w : List Int) : List Bool := w.foldl (stepB N (rowsOf N fs) ss) (closeB N (rowsOf N fs) [S])
noncomputable def runB (N : Nat) (S F : Int) (ss : List (Int × Int × Int)) (fs : List (Int × Int)) (w : List Int) : Bool := (setB N S ss fs w).getD F.toNat false
theorem setB_snoc (N S ss fs w m) : setB N S ss fs (w ++ [m]) = stepB N (rowsOf N fs) ss (setB N S ss fs w) m := by simp [setB]
theorem setB_length (N S ss fs w) : (setB N S ss fs w).length = N := by
  rcases List.eq_nil_or_concat w with rfl | ⟨w, m, rfl⟩
  · simp [setB, closeB_length]
  · rw [List.concat_eq_append, setB_snoc, stepB, closeB_length]
theorem nextOf_snoc (ss s b m) : nextOf (ss ++ [s]) b m = nextOf ss b m ++ (if leads b m s then [s.2.1] else []) := by
  unfold nextOf
  rw [List.filter_append, List.map_append]
  congr 1
  cases h : leads b m s <;> simp [h]
theorem nextOf_le (ss b m) : (nextOf ss b m).length ≤ ss.length := by
  unfold nextOf; rw [List.length_map]; exact List.length_filter_le _ _
theorem mem_idxs {b : List Bool} {x : Int} : x ∈ idxs b ↔ ∃ s : Nat, x = s ∧ b.getD s false = true := by
  unfold idxs
  rw [List.mem_flatten]
  constructor
  · rintro ⟨l, hl, hx⟩
    obtain ⟨s, _, rfl⟩ := List.mem_map.1 hl
    cases hb : b.getD s false with
    | true => rw [hb] at hx; exact ⟨s, by simpa using hx, hb⟩
    | false => rw [hb] at hx; simp at hx
  · rintro ⟨s, rfl, hb⟩
    have hs : s < b.length := by
      by_cases h : s < b.length
      · exact h
      · rw [List.getD, List.getElem?_eq_none (by omega)] at hb; cases hb
    exact ⟨_, List.mem_map.2 ⟨s, List.mem_range.2 hs, rfl⟩, by rw [hb]; simp⟩
def marks (N : Nat) (l : List Int) : List Bool := l.foldl (fun b s => b.set s.toNat true) (List.replicate N false)
theorem marks_snoc (N l x) : marks N (l ++ [x]) = (marks N l).set x.toNat true := by simp [marks]
theorem marks_length (N l) : (marks N l).length = N := by
  have : ∀ (l : List Int) (b : List Bool), (l.foldl (fun b s => b.set s.toNat true) b).length = b.length := fun l => by
    induction l with
    | nil => intro; rfl
    | cons x l ih => intro b; rw [List.foldl_cons, ih, List.length_set]
  rw [marks, this, List.length_replicate]
theorem marks_get (N : Nat) (l : List Int) (h : ∀ x ∈ l, 0 ≤ x ∧ x < (N : Int)) (s : Nat) : (marks N l).getD s false = true ↔ (s : Int) ∈ l := by
  have key : ∀ (l : List Int) (b : List Bool), b.length = N → (∀ x ∈ l, 0 ≤ x ∧ x < (N : Int)) → ((l.foldl (fun b s => b.set s.toNat true) b).getD s false = true ↔ b.getD s false = true ∨ (s : Int) ∈ l) := fun l => by
    induction l with
    | nil => intro b _ _; simp
    | cons x l ih =>
      intro b hb hx
      have h0 := hx x (List.mem_cons_self ..)
      rw [List.foldl_cons, ih _ (by rw [List.length_set]; exact hb) (fun y hy => hx y (List.mem_cons_of_mem _ hy)), getD_set _ _ _ _ _ (by omega), List.mem_cons]
      by_cases e : x.toNat = s
      · have : (s : Int) = x := by omega
        simp [e, this]
      · have : ¬ (s : Int) = x := by omega
        rw [if_neg e]; simp [this]
  have h0 : (List.replicate N false).getD s false = false := by simp only [List.getD, List.getElem?_replicate]; split <;> rfl
  have := key l (List.replicate N false) (by simp) h
  rw [h0] at this
  simpa [marks] using this
theorem idxs_in {b : List Bool} {x : Int} (h : x ∈ idxs b) : 0 ≤ x ∧ x < b.length := by
  obtain ⟨s, rfl, hb⟩ := mem_idxs.1 h
  by_cases h : s < b.length
  · omega
  · rw [List.getD, List.getElem?_eq_none (by omega)] at hb; cases hb
theorem marks_idxs (b : List Bool) : marks b.length (idxs b) = b := by
  refine List.ext_getElem (marks_length _ _) fun s h1 h2 => ?_
  have e1 : (marks b.length (idxs b)).getD s false = (marks b.length (idxs b))[s] := by simp [List.getD, h1]
  have e2 : b.getD s false = b[s] := by simp [List.getD, h2]
  rw [Bool.eq_iff_iff, ← e1, ← e2, marks_get _ _ (fun x hx => idxs_in hx), mem_idxs]
  constructor
  · rintro ⟨t, ht, hb⟩
    have : s = t := by omega
    rw [this]; exact hb
  · exact fun hb => ⟨s, rfl, hb⟩
/-- A machine that may be. -/
structure Wf (N : Nat) (S F : Int) (ss : List (Int × Int × Int)) (fs : List (Int × Int)) : Prop where
  n : N ≤ 1000
  s : 0 ≤ S ∧ S < N
  f : 0 ≤ F ∧ F < N
  ls : ss.length ≤ 100000
  lf : fs.length ≤ 100000
  steps : ∀ p ∈ ss, (0 ≤ p.1 ∧ p.1 < N) ∧ (0 ≤ p.2.1 ∧ p.2.1 < N)
  free : ∀ p ∈ fs, (0 ≤ p.1 ∧ p.1 < N) ∧ (0 ≤ p.2 ∧ p.2 < N)
theorem getD_mem {α : Type} {l : List α} {i : Nat} (h : i < l.length) (d : α) : l.getD i d ∈ l := by
  have : l.getD i d = l[i] := by simp [List.getD, h]
  rw [this]; exact List.getElem_mem h

theorem look20 (X) : lookedAt (EX md0 X) (fun _ => none) 2 Try.f20 = true := by kernel_rfl
theorem nfaRun_ok (N : Nat) (S F : Int) (ss) (fs : List (Int × Int)) (hw : Wf N S F ss fs) (w : List Int) (hlw : w.length ≤ 1000000) : Ok Try.prog 20 [nfaV N S F ss fs, slI w] (.bool (runB N S F ss fs w)) := by
  refine ok_of_WP (E := EX md0 X28) (cr := noR) X28_ok (noR_ok _) mixed (k := N + ss.length + w.length + 1) Try.func20 (look20 _) rfl ?_
  have h38 := X28_38 S F ss hw.n hw.lf (fun p hp => (hw.free p hp).1)
  have h39 := X28_39 hw.n hw.lf (fun p hp => (hw.free p hp).1)
  have hN := hw.n
  have hls := hw.ls
  simp only [Try.f20, Option.getD_some]
  have h39a := h39 [S] (by simp)
  rw [show slI [S] = .sl 1 [.int .i64 S] from rfl] at h39a
  simp (disch := omega) only [go_sem, ↓IntWalk.iteOmega, IntWalk.toNatUp, Nat.reduceEqDiff, Nat.reduceAdd, Nat.reduceMul, Nat.reduceSub, Nat.reduceLT, Nat.reduceLeDiff, Int.reduceToNat, Int.reduceLT, Int.reduceLE, Int.reduceEq, Int.reduceAdd, Int.reduceSub, Int.reduceMul, Int.toNat_natCast, reduceCtorEq, decide_true, decide_false, IntWalk.i64_in, IntWalk.u64_in, IntWalk.u8_in, begin_, h38, h39a]
  refine WP_loop (fun m a o nx => ∃ i, i ≤ w.length ∧ m = w.length - i ∧ 4 ≤ nx ∧ a 2 = .ptr (0, 2) (0, 2) 0 ∧ a 5 = .fn (.func 39) [closerV N (rowsOf N fs)] [] ∧ a 6 = slI (idxs (setB N S ss fs (w.take i))) ∧ a 25 = slI w ∧ a 26 = .int .i64 w.length ∧ a 27 = .int .i64 i ∧
    o (0, 2) = some (.row ⟨28, 1, (0, 2), false, true, [.int .i64 N, .int .i64 S, .int .i64 F, .sl ss.length (cS ss), .sl fs.length (cP fs)]⟩)) w.length ?_ ?_ ?_
  · omega
  · refine ⟨0, by omega, by omega, ?_⟩
    simp only [go_sem, ↓IntWalk.iteOmega, IntWalk.toNatUp, Nat.reduceEqDiff, Nat.reduceAdd, Nat.reduceMul, Nat.reduceSub, Nat.reduceLT, Nat.reduceLeDiff, Int.reduceToNat, Int.reduceLT, Int.reduceLE, Int.reduceEq, Int.reduceAdd, Int.reduceSub, Int.reduceMul, Int.toNat_natCast, reduceCtorEq, decide_true, decide_false, IntWalk.i64_in, IntWalk.u64_in, IntWalk.u8_in, List.take_zero]
    rfl
  · rintro m a o nx ⟨i, hi, rfl, hnx, h2, h5, h6, h25, h26, h27, ho2⟩
    by_cases hlt : i < w.length
    · have hgw := cI_get (s := 1) hlt
      have htk := take_succ_getD hlt 0
      generalize w.getD i 0 = x at hgw htk
      simp (disch := omega) only [go_sem, ↓IntWalk.iteOmega, IntWalk.toNatUp, Nat.reduceEqDiff, Nat.reduceAdd, Nat.reduceMul, Nat.reduceSub, Nat.reduceLT, Nat.reduceLeDiff, Int.reduceToNat, Int.reduceLT, Int.reduceLE, Int.reduceEq, Int.reduceAdd, Int.reduceSub, Int.reduceMul, Int.toNat_natCast, reduceCtorEq, decide_true, decide_false, IntWalk.i64_in, IntWalk.u64_in, IntWalk.u8_in, h2, h5, h6, h25, h26, h27, ho2, hgw, rep_bool, IntWalk.i64_in]
      have hbl := setB_length N S ss fs (w.take i)
      have hnext : setB N S ss fs (w.take (i + 1)) = closeB N (rowsOf N fs) (nextOf ss (setB N S ss fs (w.take i)) x) := by rw [htk, setB_snoc]; rfl
      generalize setB N S ss fs (w.take i) = b at hbl hnext
      refine WP_loop (fun m a o nx' => ∃ j, j ≤ (idxs b).length ∧ m = (idxs b).length - j ∧ nx + 4 ≤ nx' ∧ a 2 = .ptr (0, 2) (0, 2) 0 ∧ a 5 = .fn (.func 39) [closerV N (rowsOf N fs)] [] ∧ a 8 = .int .i64 x ∧ a 9 = .ref (nx + 2, 33) (nx + 2, 33) 0 N ∧ a 25 = slI w ∧ a 26 = .int .i64 w.length ∧ a 27 = .int .i64 i ∧ a 34 = slI (idxs b) ∧ a 35 = .int .i64 (idxs b).length ∧ a 36 = .int .i64 j ∧
        o (0, 2) = some (.row ⟨28, 1, (0, 2), false, true, [.int .i64 N, .int .i64 S, .int .i64 F, .sl ss.length (cS ss), .sl fs.length (cP fs)]⟩) ∧ o (nx + 2, 33) = some (.row ⟨4, 1, (nx + 2, 33), false, true, cB (marks N ((idxs b).take j))⟩)) (idxs b).length ?_ ?_ ?_
      · have := idxs_le b; omega
      · refine ⟨0, by omega, by omega, by omega, ?_⟩
        simp only [go_sem, ↓IntWalk.iteOmega, IntWalk.toNatUp, Nat.reduceEqDiff, Nat.reduceAdd, Nat.reduceMul, Nat.reduceSub, Nat.reduceLT, Nat.reduceLeDiff, Int.reduceToNat, Int.reduceLT, Int.reduceLE, Int.reduceEq, Int.reduceAdd, Int.reduceSub, Int.reduceMul, Int.toNat_natCast, reduceCtorEq, decide_true, decide_false, IntWalk.i64_in, IntWalk.u64_in, IntWalk.u8_in, h2, h5, h25, h26, h27, ho2, List.take_zero]
        rfl
      · rintro m a o nx' ⟨j, hj, rfl, hnx', h2, h5, h8, h9, h25, h26, h27, h34, h35, h36, ho2, ho33⟩
        by_cases hjl : j < (idxs b).length
        · have hgj := cI_get (s := 1) hjl
          have hin := idxs_in (getD_mem hjl 0)
          have htj := take_succ_getD hjl 0
          generalize (idxs b).getD j 0 = y at hgj hin htj
          obtain ⟨y, rfl⟩ := Int.eq_ofNat_of_zero_le hin.1
          have hml := marks_length N ((idxs b).take j)
          have hset := cB_set (marks N ((idxs b).take j)) y true (by omega)
          have hlb := idxs_le b
          simp (disch := omega) only [go_sem, ↓IntWalk.iteOmega, IntWalk.toNatUp, Nat.reduceEqDiff, Nat.reduceAdd, Nat.reduceMul, Nat.reduceSub, Nat.reduceLT, Nat.reduceLeDiff, Int.reduceToNat, Int.reduceLT, Int.reduceLE, Int.reduceEq, Int.reduceAdd, Int.reduceSub, Int.reduceMul, Int.toNat_natCast, reduceCtorEq, decide_true, decide_false, IntWalk.i64_in, IntWalk.u64_in, IntWalk.u8_in, h2, h5, h8, h9, h25, h26, h27, h34, h35, h36, ho2, ho33, hgj, hml, hset, IntWalk.i64_in]
          exact ⟨_, by omega, j + 1, by omega, rfl, by omega, rfl, by rw [htj, marks_snoc]; rfl⟩
        · have hje : j = (idxs b).length := by omega
          have hmk := marks_idxs b
          rw [hbl] at hmk
          rw [hje, List.take_length, hmk] at ho33
          simp (disch := omega) only [go_sem, ↓IntWalk.iteOmega, IntWalk.toNatUp, Nat.reduceEqDiff, Nat.reduceAdd, Nat.reduceMul, Nat.reduceSub, Nat.reduceLT, Nat.reduceLeDiff, Int.reduceToNat, Int.reduceLT, Int.reduceLE, Int.reduceEq, Int.reduceAdd, Int.reduceSub, Int.reduceMul, Int.toNat_natCast, reduceCtorEq, decide_true, decide_false, IntWalk.i64_in, IntWalk.u64_in, IntWalk.u8_in, h2, h5, h8, h9, h25, h26, h27, h34, h35, h36, ho2, ho33, IntWalk.i64_in]
          refine WP_loop (fun m a o nx'' => ∃ j v, j ≤ ss.length ∧ m = ss.length - j ∧ nx' + 3 ≤ nx'' ∧ a 2 = .ptr (0, 2) (0, 2) 0 ∧ a 5 = .fn (.func 39) [closerV N (rowsOf N fs)] [] ∧ a 8 = .int .i64 x ∧ a 9 = .ref (nx + 2, 33) (nx + 2, 33) 0 N ∧ a 25 = slI w ∧ a 26 = .int .i64 w.length ∧ a 27 = .int .i64 i ∧ a 45 = .sl ss.length (cS ss) ∧ a 46 = .int .i64 ss.length ∧ a 47 = .int .i64 j ∧ a 12 = v ∧
            HS 3 1 76 o nx'' v (nextOf (ss.take j) b x).length (cI (nextOf (ss.take j) b x)) ∧
            o (0, 2) = some (.row ⟨28, 1, (0, 2), false, true, [.int .i64 N, .int .i64 S, .int .i64 F, .sl ss.length (cS ss), .sl fs.length (cP fs)]⟩) ∧ o (nx + 2, 33) = some (.row ⟨4, 1, (nx + 2, 33), false, true, cB b⟩)) ss.length ?_ ?_ ?_
          · omega
          · refine ⟨0, .nil, by omega, by omega, by omega, ?_⟩
            simp only [go_sem, ↓IntWalk.iteOmega, IntWalk.toNatUp, Nat.reduceEqDiff, Nat.reduceAdd, Nat.reduceMul, Nat.reduceSub, Nat.reduceLT, Nat.reduceLeDiff, Int.reduceToNat, Int.reduceLT, Int.reduceLE, Int.reduceEq, Int.reduceAdd, Int.reduceSub, Int.reduceMul, Int.toNat_natCast, reduceCtorEq, decide_true, decide_false, IntWalk.i64_in, IntWalk.u64_in, IntWalk.u8_in, h2, h5, h8, h9, h25, h26, h27, ho2, ho33, List.take_zero]
            exact HS.nil
          · rintro m a o nx'' ⟨j, v, hj, rfl, hnx'', h2, h5, h8, h9, h25, h26, h27, h45, h46, h47, h12, hHS, ho2, ho33⟩
            by_cases hjs : j < ss.length
            · have hat := cS_at hjs
              obtain ⟨⟨q1, q2⟩, _⟩ := hw.steps _ (getD_mem hjs (0, 0, 0))
              have htj := take_succ_getD hjs (0, 0, 0)
              have hnl := nextOf_le (ss.take j) b x
              rw [List.length_take] at hnl
              generalize ss.getD j (0, 0, 0) = p at hat q1 q2 htj
              obtain ⟨f, t, set⟩ := p
              simp only at hat q1 q2
              obtain ⟨f, rfl⟩ := Int.eq_ofNat_of_zero_le q1
              have hgb := cB_get (s := 1) (show f < b.length by omega)
              have hsn : nextOf (ss.take (j + 1)) b x = nextOf (ss.take j) b x ++ (if leads b x (↑f, t, set) then [t] else []) := by rw [htj, nextOf_snoc]
              have hld : leads b x (↑f, t, set) = (b.getD f false && (decide (0 ≤ x) && decide (x < 5) && hasMode set x)) := rfl
              cases hbf : b.getD f false with
              | false =>
                rw [hbf] at hgb hld
                rw [hld] at hsn
                simp only [Bool.false_and, Bool.false_eq_true, if_false, List.append_nil] at hsn
                simp (disch := omega) only [go_sem, ↓IntWalk.iteOmega, IntWalk.toNatUp, Nat.reduceEqDiff, Nat.reduceAdd, Nat.reduceMul, Nat.reduceSub, Nat.reduceLT, Nat.reduceLeDiff, Int.reduceToNat, Int.reduceLT, Int.reduceLE, Int.reduceEq, Int.reduceAdd, Int.reduceSub, Int.reduceMul, Int.toNat_natCast, reduceCtorEq, decide_true, decide_false, IntWalk.i64_in, IntWalk.u64_in, IntWalk.u8_in, h2, h5, h8, h9, h25, h26, h27, h45, h46, h47, h12, ho2, ho33, hat, hgb, IntWalk.i64_in]
                exact ⟨_, by omega, j + 1, v, by omega, rfl, by omega, rfl, rfl, by rw [hsn]; exact hHS.keep (fun _ _ => by simp [upd_app]) (by omega)⟩
              | true =>
                rw [hbf] at hgb hld
                rw [hld] at hsn
                by_cases hx0 : 0 ≤ x
                · by_cases hx5 : x < 5
                  · rw [decide_eq_true hx0, decide_eq_true hx5] at hsn
                    cases hm : hasMode set x with
                    | true =>
                      rw [hm] at hsn
                      simp only [hasMode, decide_eq_true_eq] at hm
                      simp only [Bool.and_self, if_true] at hsn
                      have hHS' := hHS
                      rcases hHS with ⟨rfl, e2, e3⟩ | ⟨i1, g1, rfl, hi1, hrow, hlen⟩
                      · simp (disch := omega) only [go_sem, ↓IntWalk.iteOmega, IntWalk.toNatUp, Nat.reduceEqDiff, Nat.reduceAdd, Nat.reduceMul, Nat.reduceSub, Nat.reduceLT, Nat.reduceLeDiff, Int.reduceToNat, Int.reduceLT, Int.reduceLE, Int.reduceEq, Int.reduceAdd, Int.reduceSub, Int.reduceMul, Int.toNat_natCast, reduceCtorEq, decide_true, decide_false, IntWalk.i64_in, IntWalk.u64_in, IntWalk.u8_in, h2, h5, h8, h9, h25, h26, h27, h45, h46, h47, h12, ho2, ho33, hat, hgb, hm, IntWalk.i64_in]
                        have e4 : nextOf (ss.take j) b x = [] := List.length_eq_zero_iff.1 e2
                        refine ⟨_, ?_, j + 1, _, by omega, rfl, by omega, rfl, rfl, .inr ⟨nx'' + 3, (nx'' + 3, 76), ?_, by omega, ?_, ?_⟩⟩
                        · omega
                        · rw [hsn, e4]; rfl
                        · rw [hsn, e4]; simp [upd_app, cI]
                        · rw [hsn, e4]; rfl
                      · simp (disch := omega) only [go_sem, ↓IntWalk.iteOmega, IntWalk.toNatUp, Nat.reduceEqDiff, Nat.reduceAdd, Nat.reduceMul, Nat.reduceSub, Nat.reduceLT, Nat.reduceLeDiff, Int.reduceToNat, Int.reduceLT, Int.reduceLE, Int.reduceEq, Int.reduceAdd, Int.reduceSub, Int.reduceMul, Int.toNat_natCast, reduceCtorEq, decide_true, decide_false, IntWalk.i64_in, IntWalk.u64_in, IntWalk.u8_in, h2, h5, h8, h9, h25, h26, h27, h45, h46, h47, h12, ho2, ho33, hat, hgb, hm, hrow, IntWalk.i64_in]
                        refine ⟨_, ?_, j + 1, _, by omega, rfl, by omega, rfl, rfl, .inr ⟨i1, (nx'' + 3, 76), ?_, by omega, ?_, ?_⟩⟩
                        · omega
                        · rw [hsn, List.length_append]; rfl
                        · rw [hsn, cI_app]; simp [upd_app, cI]
                        · rw [cI_length, Nat.mul_one]
                    | false =>
                      rw [hm] at hsn
                      simp only [hasMode, decide_eq_false_iff_not] at hm
                      simp only [Bool.and_self, Bool.and_false, Bool.false_eq_true, if_false, List.append_nil] at hsn
                      simp (disch := omega) only [go_sem, ↓IntWalk.iteOmega, IntWalk.toNatUp, Nat.reduceEqDiff, Nat.reduceAdd, Nat.reduceMul, Nat.reduceSub, Nat.reduceLT, Nat.reduceLeDiff, Int.reduceToNat, Int.reduceLT, Int.reduceLE, Int.reduceEq, Int.reduceAdd, Int.reduceSub, Int.reduceMul, Int.toNat_natCast, reduceCtorEq, decide_true, decide_false, IntWalk.i64_in, IntWalk.u64_in, IntWalk.u8_in, h2, h5, h8, h9, h25, h26, h27, h45, h46, h47, h12, ho2, ho33, hat, hgb, hm, IntWalk.i64_in]
                      exact ⟨_, by omega, j + 1, v, by omega, rfl, by omega, rfl, rfl, by rw [hsn]; exact hHS.keep (fun _ _ => by simp [upd_app]) (by omega)⟩
                  · rw [decide_eq_false hx5] at hsn
                    simp only [Bool.and_false, Bool.false_and, Bool.false_eq_true, if_false, List.append_nil] at hsn
                    simp (disch := omega) only [go_sem, ↓IntWalk.iteOmega, IntWalk.toNatUp, Nat.reduceEqDiff, Nat.reduceAdd, Nat.reduceMul, Nat.reduceSub, Nat.reduceLT, Nat.reduceLeDiff, Int.reduceToNat, Int.reduceLT, Int.reduceLE, Int.reduceEq, Int.reduceAdd, Int.reduceSub, Int.reduceMul, Int.toNat_natCast, reduceCtorEq, decide_true, decide_false, IntWalk.i64_in, IntWalk.u64_in, IntWalk.u8_in, h2, h5, h8, h9, h25, h26, h27, h45, h46, h47, h12, ho2, ho33, hat, hgb, IntWalk.i64_in]
                    exact ⟨_, by omega, j + 1, v, by omega, rfl, by omega, rfl, rfl, by rw [hsn]; exact hHS.keep (fun _ _ => by simp [upd_app]) (by omega)⟩
                · rw [decide_eq_false hx0] at hsn
                  simp only [Bool.and_false, Bool.false_and, Bool.false_eq_true, if_false, List.append_nil] at hsn
                  simp (disch := omega) only [go_sem, ↓IntWalk.iteOmega, IntWalk.toNatUp, Nat.reduceEqDiff, Nat.reduceAdd, Nat.reduceMul, Nat.reduceSub, Nat.reduceLT, Nat.reduceLeDiff, Int.reduceToNat, Int.reduceLT, Int.reduceLE, Int.reduceEq, Int.reduceAdd, Int.reduceSub, Int.reduceMul, Int.toNat_natCast, reduceCtorEq, decide_true, decide_false, IntWalk.i64_in, IntWalk.u64_in, IntWalk.u8_in, h2, h5, h8, h9, h25, h26, h27, h45, h46, h47, h12, ho2, ho33, hat, hgb, IntWalk.i64_in]
                  exact ⟨_, by omega, j + 1, v, by omega, rfl, by omega, rfl, rfl, by rw [hsn]; exact hHS.keep (fun _ _ => by simp [upd_app]) (by omega)⟩
            · have hje : j = ss.length := by omega
              subst hje
              rw [List.take_length] at hHS
              have hvw : view o 12 v = slI (nextOf ss b x) := by have := hHS.view 11; rwa [view_cI] at this
              have hnin : nin (0, 2) (viewTags o 12 v) = true := hHS.nin 11 (tags_cI _ _ _) (by decide)
              have hnl := nextOf_le ss b x
              simp (disch := omega) only [go_sem, ↓IntWalk.iteOmega, IntWalk.toNatUp, Nat.reduceEqDiff, Nat.reduceAdd, Nat.reduceMul, Nat.reduceSub, Nat.reduceLT, Nat.reduceLeDiff, Int.reduceToNat, Int.reduceLT, Int.reduceLE, Int.reduceEq, Int.reduceAdd, Int.reduceSub, Int.reduceMul, Int.toNat_natCast, reduceCtorEq, decide_true, decide_false, IntWalk.i64_in, IntWalk.u64_in, IntWalk.u8_in, h2, h5, h8, h9, h25, h26, h27, h45, h46, h47, h12, ho2, ho33, hvw, hnin, h39, IntWalk.i64_in]
              exact ⟨_, by omega, i + 1, by omega, rfl, by omega, by rw [hnext], rfl⟩
    · have hie : i = w.length := by omega
      subst hie
      rw [List.take_length] at h6
      have hbl := setB_length N S ss fs w
      have hrun : runB N S F ss fs w = (setB N S ss fs w).getD F.toNat false := rfl
      rw [hrun]
      generalize setB N S ss fs w = b at hbl h6
      simp (disch := omega) only [go_sem, ↓IntWalk.iteOmega, IntWalk.toNatUp, Nat.reduceEqDiff, Nat.reduceAdd, Nat.reduceMul, Nat.reduceSub, Nat.reduceLT, Nat.reduceLeDiff, Int.reduceToNat, Int.reduceLT, Int.reduceLE, Int.reduceEq, Int.reduceAdd, Int.reduceSub, Int.reduceMul, Int.toNat_natCast, reduceCtorEq, decide_true, decide_false, IntWalk.i64_in, IntWalk.u64_in, IntWalk.u8_in, h2, h5, h6, h25, h26, h27, ho2, IntWalk.i64_in]
      have hwf := hw.f
      obtain ⟨F, rfl⟩ := Int.eq_ofNat_of_zero_le hwf.1
      rw [Int.toNat_natCast]
      refine WP_loop (fun m a o nx' => ∃ j, j ≤ (idxs b).length ∧ m = (idxs b).length - j ∧ nx + 2 ≤ nx' ∧ a 2 = .ptr (0, 2) (0, 2) 0 ∧ a 82 = slI (idxs b) ∧ a 83 = .int .i64 (idxs b).length ∧ a 84 = .int .i64 j ∧ ¬ (F : Int) ∈ (idxs b).take j ∧
        o (0, 2) = some (.row ⟨28, 1, (0, 2), false, true, [.int .i64 N, .int .i64 S, .int .i64 F, .sl ss.length (cS ss), .sl fs.length (cP fs)]⟩)) (idxs b).length ?_ ?_ ?_
      · have := idxs_le b; omega
      · refine ⟨0, by omega, by omega, by omega, ?_⟩
        simp only [go_sem, ↓IntWalk.iteOmega, IntWalk.toNatUp, Nat.reduceEqDiff, Nat.reduceAdd, Nat.reduceMul, Nat.reduceSub, Nat.reduceLT, Nat.reduceLeDiff, Int.reduceToNat, Int.reduceLT, Int.reduceLE, Int.reduceEq, Int.reduceAdd, Int.reduceSub, Int.reduceMul, Int.toNat_natCast, reduceCtorEq, decide_true, decide_false, IntWalk.i64_in, IntWalk.u64_in, IntWalk.u8_in, h2, ho2, List.take_zero]
        simp
      · rintro m a o nx' ⟨j, hj, rfl, hnx', h2, h82, h83, h84, hmem, ho2⟩
        have hlb := idxs_le b
        by_cases hjl : j < (idxs b).length
        · have hgj := cI_get (s := 1) hjl
          have htj := take_succ_getD hjl 0
          have hmj := getD_mem hjl 0
          generalize (idxs b).getD j 0 = y at hgj htj hmj
          by_cases hy : y = F
          · subst hy
            have hb : b.getD F false = true := by
              obtain ⟨s, h1, h2⟩ := mem_idxs.1 hmj
              rwa [show s = F by omega] at h2
            simp (disch := omega) only [go_sem, ↓IntWalk.iteOmega, IntWalk.toNatUp, Nat.reduceEqDiff, Nat.reduceAdd, Nat.reduceMul, Nat.reduceSub, Nat.reduceLT, Nat.reduceLeDiff, Int.reduceToNat, Int.reduceLT, Int.reduceLE, Int.reduceEq, Int.reduceAdd, Int.reduceSub, Int.reduceMul, Int.toNat_natCast, reduceCtorEq, decide_true, decide_false, IntWalk.i64_in, IntWalk.u64_in, IntWalk.u8_in, h2, h82, h83, h84, ho2, hgj, hb, IntWalk.i64_in]
          · simp (disch := omega) only [go_sem, ↓IntWalk.iteOmega, IntWalk.toNatUp, Nat.reduceEqDiff, Nat.reduceAdd, Nat.reduceMul, Nat.reduceSub, Nat.reduceLT, Nat.reduceLeDiff, Int.reduceToNat, Int.reduceLT, Int.reduceLE, Int.reduceEq, Int.reduceAdd, Int.reduceSub, Int.reduceMul, Int.toNat_natCast, reduceCtorEq, decide_true, decide_false, IntWalk.i64_in, IntWalk.u64_in, IntWalk.u8_in, h2, h82, h83, h84, ho2, hgj, hy, IntWalk.i64_in]
            exact ⟨_, by omega, j + 1, by omega, rfl, by omega, rfl, by rw [htj, List.mem_append, List.mem_singleton]; exact fun h => h.elim hmem (fun h => hy h.symm)⟩
        · have hje : j = (idxs b).length := by omega
          rw [hje, List.take_length] at hmem
          have hb : b.getD F false = false := by
            rw [← Bool.not_eq_true]
            exact fun hb => hmem (mem_idxs.2 ⟨F, rfl, hb⟩)
          simp (disch := omega) only [go_sem, ↓IntWalk.iteOmega, IntWalk.toNatUp, Nat.reduceEqDiff, Nat.reduceAdd, Nat.reduceMul, Nat.reduceSub, Nat.reduceLT, Nat.reduceLeDiff, Int.reduceToNat, Int.reduceLT, Int.reduceLE, Int.reduceEq, Int.reduceAdd, Int.reduceSub, Int.reduceMul, Int.toNat_natCast, reduceCtorEq, decide_true, decide_false, IntWalk.i64_in, IntWalk.u64_in, IntWalk.u8_in, h2, h82, h83, h84, ho2, hb, IntWalk.i64_in]
end Go.Proofs.Ytcaemgpificohaa.A
