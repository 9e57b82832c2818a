/- The document's Close, Begin, Step, Run: contracts. -/
import Derived.Test.YtcaemgpificohaaC4
set_option linter.unusedVariables false
set_option linter.unusedSimpArgs false
set_option linter.unnecessarySimpa false
namespace Go.Proofs.Ytcaemgpificohaa.A
open Go
set_option maxRecDepth 20000
/-! ### in -/
def R42 (args : List AV) (r : AV) : Prop := ∃ (N S F s : Int) (ss : List (Int × Int × Int)) (fs : List (Int × Int)), args = [nfaV N S F ss fs, .int .i64 s] ∧ r = .bool (decide (0 ≤ s ∧ s < N))
theorem R42_fn : Fun1 R42 := by
  rintro args r r' ⟨N, S, F, s, ss, fs, rfl, rfl⟩ ⟨N', S', F', s', ss', fs', h, rfl⟩
  simp only [nfaV, List.cons.injEq, AV.agg.injEq, AV.int.injEq, AV.sl.injEq, true_and, and_true] at h
  obtain ⟨⟨h1, _⟩, h2⟩ := h
  rw [h1, h2]
theorem look42 (X) : lookedAt (EX md0 X) (fun _ => none) 2 Try.f42 = true := by kernel_rfl
theorem in_ok (N S F s : Int) (ss fs) : Ok Try.prog 42 [nfaV N S F ss fs, .int .i64 s] (.bool (decide (0 ≤ s ∧ s < N))) := by
  refine ok_of_WP (E := EX md0 (fun _ _ => none)) (cr := noR) (tab_nil _) (noR_ok _) mixed (k := 0) Try.func42 (look42 _) rfl ?_
  simp only [Try.f42, Option.getD_some]
  by_cases h : 0 ≤ s
  · simp (disch := omega) only [go_sem, ↓IntWalk.iteOmega, IntWalk.toNatUp, Nat.reduceEqDiff, Nat.reduceAdd, Nat.reduceMul, Nat.reduceSub, Nat.reduceLT, Nat.reduceLeDiff, Int.reduceToNat, Int.reduceLT, Int.reduceLE, Int.reduceEq, Int.reduceAdd, Int.reduceSub, Int.reduceMul, Int.toNat_natCast, reduceCtorEq, decide_true, decide_false, IntWalk.i64_in, IntWalk.u64_in, IntWalk.u8_in]
  · simp (disch := omega) only [go_sem, ↓IntWalk.iteOmega, IntWalk.toNatUp, Nat.reduceEqDiff, Nat.reduceAdd, Nat.reduceMul, Nat.reduceSub, Nat.reduceLT, Nat.reduceLeDiff, Int.reduceToNat, Int.reduceLT, Int.reduceLE, Int.reduceEq, Int.reduceAdd, Int.reduceSub, Int.reduceMul, Int.toNat_natCast, reduceCtorEq, decide_true, decide_false, IntWalk.i64_in, IntWalk.u64_in, IntWalk.u8_in]
    rw [decide_eq_false (by omega)]
theorem R42_ok (args r) (h : R42 args r) : Ok Try.prog 42 args r := by
  obtain ⟨N, S, F, s, ss, fs, rfl, rfl⟩ := h
  exact in_ok N S F s ss fs
/-! ### closed, List as relations -/
theorem slB_inj {x y : List Bool} (h : slB x = slB y) : x = y := by
  unfold slB at h; injection h with _ h; exact cB_inj h
def R46 (args : List AV) (r : AV) : Prop := ∃ (N : Nat) (S F : Int) (ss : List (Int × Int × Int)) (fs : List (Int × Int)) (is : List Bool), Wf N S F ss fs ∧ is.length = N ∧ args = [nfaV N S F ss fs, slB is] ∧ r = slB (closeB N (rowsOf N fs) (idxs is))
theorem R46_fn : Fun1 R46 := by
  rintro args r r' ⟨N, S, F, ss, fs, is, _, _, rfl, rfl⟩ ⟨N', S', F', ss', fs', is', _, _, h, rfl⟩
  simp only [nfaV, List.cons.injEq, AV.agg.injEq, AV.int.injEq, AV.sl.injEq, true_and, and_true] at h
  obtain ⟨⟨h1, _, _, _, _, h2⟩, _, h3⟩ := h
  have h1 : N = N' := by omega
  rw [h1, cP_inj h2, cB_inj h3]
theorem R46_ok (args r) (h : R46 args r) : Ok Try.prog 46 args r := by
  obtain ⟨N, S, F, ss, fs, is, h1, h2, rfl, rfl⟩ := h
  exact closed_ok N S F ss fs h1 is h2
def R45 (args : List AV) (r : AV) : Prop := ∃ b : List Bool, b.length ≤ 100000 ∧ args = [slB b] ∧ r = slI (idxs b)
theorem R45_fn : Fun1 R45 := by
  rintro args r r' ⟨b, _, rfl, rfl⟩ ⟨b', _, h, rfl⟩
  simp only [List.cons.injEq, AV.sl.injEq, and_true] at h
  rw [cB_inj h.2]
theorem R45_ok (args r) (h : R45 args r) : Ok Try.prog 45 args r := by
  obtain ⟨b, h1, rfl, rfl⟩ := h
  exact list_ok b h1
theorem idxs_mem_marks {N : Nat} {l : List Int} (h : ∀ x ∈ l, 0 ≤ x ∧ x < (N : Int)) (s : Nat) : (s : Int) ∈ idxs (marks N l) ↔ (s : Int) ∈ l := by
  rw [mem_idxs, ← marks_get N l h s]
  exact ⟨fun ⟨t, ht, hb⟩ => by rwa [show s = t by omega], fun hb => ⟨s, rfl, hb⟩⟩
theorem close_marks {N : Nat} {rows : List (List Int)} {l : List Int} (h : ∀ x ∈ l, 0 ≤ x ∧ x < (N : Int)) : closeB N rows (idxs (marks N l)) = closeB N rows l := closeB_congr fun s _ => idxs_mem_marks h s

noncomputable def X29 : FuncId → List AV → Option AV := tabLook [(46, tRel R46), (45, tRel R45), (42, tRel R42)]
theorem X29_ok : CPSound Try.prog X29 := tab_cons (tab_cons (tab_cons (tab_nil _) (tRel_ok R42_ok)) (tRel_ok R45_ok)) (tRel_ok R46_ok)
theorem X29_46 {N : Nat} {S F : Int} {ss fs} (hw : Wf N S F ss fs) (is : List Bool) (h : is.length = N) : X29 46 [nfaV N S F ss fs, .sl N (cB is)] = some (slB (closeB N (rowsOf N fs) (idxs is))) := by
  show tRel R46 _ = _
  exact tRel_eq R46_fn ⟨N, S, F, ss, fs, is, hw, h, by rw [slB, h], rfl⟩
theorem X29_45 (b : List Bool) (h : b.length ≤ 100000) : X29 45 [slB b] = some (slI (idxs b)) := by
  show tRel R45 _ = _
  exact tRel_eq R45_fn ⟨b, h, rfl, rfl⟩
theorem X29_42 (N S F s : Int) (ss fs) : X29 42 [nfaV N S F ss fs, .int .i64 s] = some (.bool (decide (0 ≤ s ∧ s < N))) := by
  show tRel R42 _ = _
  exact tRel_eq R42_fn ⟨N, S, F, s, ss, fs, rfl, rfl⟩

/-! ### Close -/
def inN (N : Nat) (x : Int) : Bool := decide (0 ≤ x ∧ x < (N : Int))
theorem look29 (X) : lookedAt (EX md0 X) (fun _ => none) 2 Try.f29 = true := by kernel_rfl
theorem refClose_ok (N : Nat) (S F : Int) (ss) (fs : List (Int × Int)) (hw : Wf N S F ss fs) (l : List Int) (hl : l.length ≤ 900000) : Ok Try.prog 29 [nfaV N S F ss fs, slI l] (slI (idxs (closeB N (rowsOf N fs) l))) := by
  refine ok_of_WP (E := EX md0 X29) (cr := noR) X29_ok (noR_ok _) mixed (k := l.length + 1) Try.func29 (look29 _) rfl ?_
  have hN := hw.n
  have h46 := X29_46 hw
  have h45 := X29_45 (closeB N (rowsOf N fs) (idxs (marks N (l.filter (inN N))))) (by rw [closeB_length]; omega)
  have h42 := fun s => X29_42 N S F s ss fs
  simp only [Try.f29, Option.getD_some]
  simp (disch := omega) only [go_sem, ↓IntWalk.iteOmega, IntWalk.toNatUp, Nat.reduceEqDiff, Nat.reduceAdd, Nat.reduceMul, Nat.reduceSub, Nat.reduceLT, Nat.reduceLeDiff, Int.reduceToNat, Int.reduceLT, Int.reduceLE, Int.reduceEq, Int.reduceAdd, Int.reduceSub, Int.reduceMul, Int.toNat_natCast, reduceCtorEq, decide_true, decide_false, IntWalk.i64_in, IntWalk.u64_in, IntWalk.u8_in, rep_bool]
  refine WP_loop (fun m a o nx => ∃ i, i ≤ l.length ∧ m = l.length - i ∧ 2 ≤ nx ∧ a 1 = slI l ∧ a 2 = .ptr (0, 2) (0, 2) 0 ∧ a 5 = .ref (1, 9) (1, 9) 0 N ∧ a 6 = .int .i64 i ∧
    o (0, 2) = some (.row ⟨28, 1, (0, 2), false, true, [.int .i64 N, .int .i64 S, .int .i64 F, .sl ss.length (cS ss), .sl fs.length (cP fs)]⟩) ∧ o (1, 9) = some (.row ⟨4, 1, (1, 9), false, true, cB (marks N ((l.take i).filter (inN N)))⟩)) l.length ?_ ?_ ?_
  · omega
  · refine ⟨0, by omega, by omega, by omega, ?_⟩
    simp (disch := omega) only [go_sem, ↓IntWalk.iteOmega, IntWalk.toNatUp, Nat.reduceEqDiff, Nat.reduceAdd, Nat.reduceMul, Nat.reduceSub, Nat.reduceLT, Nat.reduceLeDiff, Int.reduceToNat, Int.reduceLT, Int.reduceLE, Int.reduceEq, Int.reduceAdd, Int.reduceSub, Int.reduceMul, Int.toNat_natCast, reduceCtorEq, decide_true, decide_false, IntWalk.i64_in, IntWalk.u64_in, IntWalk.u8_in, List.take_zero]
    rfl
  · rintro m a o nx ⟨i, hi, rfl, hnx, h1, h2, h5, h6, ho2, ho9⟩
    have hml := marks_length N ((l.take i).filter (inN N))
    by_cases hlt : i < l.length
    · have hg := cI_get (s := 1) hlt
      have htk := take_succ_getD hlt 0
      generalize l.getD i 0 = x at hg htk
      by_cases hx : 0 ≤ x ∧ x < (N : Int)
      · obtain ⟨x, rfl⟩ := Int.eq_ofNat_of_zero_le hx.1
        have hset := cB_set (marks N ((l.take i).filter (inN N))) x true (by omega)
        have hf : inN N (x : Int) = true := decide_eq_true hx
        simp (disch := omega) only [go_sem, ↓IntWalk.iteOmega, IntWalk.toNatUp, Nat.reduceEqDiff, Nat.reduceAdd, Nat.reduceMul, Nat.reduceSub, Nat.reduceLT, Nat.reduceLeDiff, Int.reduceToNat, Int.reduceLT, Int.reduceLE, Int.reduceEq, Int.reduceAdd, Int.reduceSub, Int.reduceMul, Int.toNat_natCast, reduceCtorEq, decide_true, decide_false, IntWalk.i64_in, IntWalk.u64_in, IntWalk.u8_in, h1, h2, h5, h6, ho2, ho9, hg, h42, hset, hml]
        refine ⟨_, ?_, i + 1, by omega, rfl, rfl, ?_⟩
        · omega
        · rw [htk, List.filter_append, List.filter_cons, hf, if_pos rfl, List.filter_nil, marks_snoc]; rfl
      · have hf : inN N x = false := decide_eq_false hx
        simp (disch := omega) only [go_sem, ↓IntWalk.iteOmega, IntWalk.toNatUp, Nat.reduceEqDiff, Nat.reduceAdd, Nat.reduceMul, Nat.reduceSub, Nat.reduceLT, Nat.reduceLeDiff, Int.reduceToNat, Int.reduceLT, Int.reduceLE, Int.reduceEq, Int.reduceAdd, Int.reduceSub, Int.reduceMul, Int.toNat_natCast, reduceCtorEq, decide_true, decide_false, IntWalk.i64_in, IntWalk.u64_in, IntWalk.u8_in, h1, h2, h5, h6, ho2, ho9, hg, h42]
        refine ⟨_, ?_, i + 1, by omega, rfl, rfl, ?_⟩
        · omega
        · rw [htk, List.filter_append, List.filter_cons, hf, if_neg (by simp), List.filter_nil, List.append_nil]
    · have hie : i = l.length := by omega
      rw [hie, List.take_length] at ho9 hml
      have h46' := h46 _ hml
      have hall : (cB (marks N (l.filter (inN N)))).take N = cB (marks N (l.filter (inN N))) := take_len (by rw [cB_length]; exact hml)
      simp (disch := omega) only [go_sem, ↓IntWalk.iteOmega, IntWalk.toNatUp, Nat.reduceEqDiff, Nat.reduceAdd, Nat.reduceMul, Nat.reduceSub, Nat.reduceLT, Nat.reduceLeDiff, Int.reduceToNat, Int.reduceLT, Int.reduceLE, Int.reduceEq, Int.reduceAdd, Int.reduceSub, Int.reduceMul, Int.toNat_natCast, reduceCtorEq, decide_true, decide_false, IntWalk.i64_in, IntWalk.u64_in, IntWalk.u8_in, h1, h2, h5, h6, ho2, ho9, h46', h45, hall, hml]
      have e : closeB N (rowsOf N fs) (idxs (marks N (l.filter (inN N)))) = closeB N (rowsOf N fs) l := by
        rw [close_marks (fun x hx => by have := (List.mem_filter.1 hx).2; simpa [inN] using this)]
        exact closeB_congr fun s hs => by
          rw [List.mem_filter]
          exact ⟨fun h => h.1, fun h => ⟨h, decide_eq_true (by omega)⟩⟩
      rw [e]

/-! ### Begin, Step, Run -/
theorem look43 (X) : lookedAt (EX md0 X) (fun _ => none) 1 Try.f43 = true := by kernel_rfl
theorem begin_ok (N : Nat) (S F : Int) (ss) (fs : List (Int × Int)) (hw : Wf N S F ss fs) : Ok Try.prog 43 [nfaV N S F ss fs] (slB (closeB N (rowsOf N fs) [S])) := by
  refine ok_of_WP (E := EX md0 X29) (cr := noR) X29_ok (noR_ok _) mixed (k := 0) Try.func43 (look43 _) rfl ?_
  have hN := hw.n
  have hS := hw.s
  obtain ⟨S, rfl⟩ := Int.eq_ofNat_of_zero_le hS.1
  have hset := cB_set (List.replicate N false) S true (by simp; omega)
  have hm : (List.replicate N false).set S true = marks N [(S : Int)] := rfl
  rw [hm] at hset
  have hml := marks_length N [(S : Int)]
  have h46 := X29_46 hw (marks N [(S : Int)]) hml
  have hall : (cB (marks N [(S : Int)])).take N = cB (marks N [(S : Int)]) := take_len (by rw [cB_length]; exact hml)
  rw [close_marks (fun x hx => by rw [List.mem_singleton.1 hx]; exact hS)] at h46
  simp only [Try.f43, Option.getD_some]
  simp (disch := omega) only [go_sem, ↓IntWalk.iteOmega, IntWalk.toNatUp, Nat.reduceEqDiff, Nat.reduceAdd, Nat.reduceMul, Nat.reduceSub, Nat.reduceLT, Nat.reduceLeDiff, Int.reduceToNat, Int.reduceLT, Int.reduceLE, Int.reduceEq, Int.reduceAdd, Int.reduceSub, Int.reduceMul, Int.toNat_natCast, reduceCtorEq, decide_true, decide_false, IntWalk.i64_in, IntWalk.u64_in, IntWalk.u8_in, rep_bool, hset, hml, h46, hall]
theorem look44 (X) : lookedAt (EX md0 X) (fun _ => none) 3 Try.f44 = true := by kernel_rfl
theorem step_ok (N : Nat) (S F : Int) (ss) (fs : List (Int × Int)) (hw : Wf N S F ss fs) (b : List Bool) (hb : b.length = N) (m : Int) : Ok Try.prog 44 [nfaV N S F ss fs, slB b, .int .i64 m] (slB (stepB N (rowsOf N fs) ss b m)) := by
  refine ok_of_WP (E := EX md0 X29) (cr := noR) X29_ok (noR_ok _) mixed (k := ss.length + 1) Try.func44 (look44 _) rfl ?_
  have hN := hw.n
  have hls := hw.ls
  have h46 := X29_46 hw
  simp only [Try.f44, Option.getD_some]
  simp (disch := omega) only [go_sem, ↓IntWalk.iteOmega, IntWalk.toNatUp, Nat.reduceEqDiff, Nat.reduceAdd, Nat.reduceMul, Nat.reduceSub, Nat.reduceLT, Nat.reduceLeDiff, Int.reduceToNat, Int.reduceLT, Int.reduceLE, Int.reduceEq, Int.reduceAdd, Int.reduceSub, Int.reduceMul, Int.toNat_natCast, reduceCtorEq, decide_true, decide_false, IntWalk.i64_in, IntWalk.u64_in, IntWalk.u8_in, rep_bool]
  refine WP_loop (fun v a o nx => ∃ i, i ≤ ss.length ∧ v = ss.length - i ∧ 2 ≤ nx ∧ a 1 = slB b ∧ a 2 = .int .i64 m ∧ a 3 = .ptr (0, 3) (0, 3) 0 ∧ a 7 = .ref (1, 12) (1, 12) 0 N ∧ a 8 = .int .i64 i ∧
    o (0, 3) = some (.row ⟨28, 1, (0, 3), false, true, [.int .i64 N, .int .i64 S, .int .i64 F, .sl ss.length (cS ss), .sl fs.length (cP fs)]⟩) ∧ o (1, 12) = some (.row ⟨4, 1, (1, 12), false, true, cB (marks N (nextOf (ss.take i) b m))⟩)) ss.length ?_ ?_ ?_
  · omega
  · refine ⟨0, by omega, by omega, by omega, ?_⟩
    simp (disch := omega) only [go_sem, ↓IntWalk.iteOmega, IntWalk.toNatUp, Nat.reduceEqDiff, Nat.reduceAdd, Nat.reduceMul, Nat.reduceSub, Nat.reduceLT, Nat.reduceLeDiff, Int.reduceToNat, Int.reduceLT, Int.reduceLE, Int.reduceEq, Int.reduceAdd, Int.reduceSub, Int.reduceMul, Int.toNat_natCast, reduceCtorEq, decide_true, decide_false, IntWalk.i64_in, IntWalk.u64_in, IntWalk.u8_in, List.take_zero]
    rfl
  · rintro v a o nx ⟨i, hi, rfl, hnx, h1, h2, h3, h7, h8, ho3, ho12⟩
    have hml := marks_length N (nextOf (ss.take i) b m)
    by_cases hlt : i < ss.length
    · have hat := cS_at hlt
      obtain ⟨⟨q1, q2⟩, q3, q4⟩ := hw.steps _ (getD_mem hlt (0, 0, 0))
      have htk := take_succ_getD hlt (0, 0, 0)
      generalize ss.getD i (0, 0, 0) = p at hat q1 q2 q3 q4 htk
      obtain ⟨f, t, set⟩ := p
      simp only at hat q1 q2 q3 q4
      obtain ⟨f, rfl⟩ := Int.eq_ofNat_of_zero_le q1
      obtain ⟨t, rfl⟩ := Int.eq_ofNat_of_zero_le q3
      have hgb := cB_get (s := 1) (show f < b.length by omega)
      have hsn : nextOf (ss.take (i + 1)) b m = nextOf (ss.take i) b m ++ (if leads b m (↑f, ↑t, set) then [(t : Int)] else []) := by rw [htk, nextOf_snoc]
      have hld : leads b m (↑f, ↑t, set) = (b.getD f false && (decide (0 ≤ m) && decide (m < 5) && hasMode set m)) := rfl
      have hset := cB_set (marks N (nextOf (ss.take i) b m)) t true (by omega)
      by_cases hm0 : 0 ≤ m
      · by_cases hm5 : m < 5
        · rw [decide_eq_true hm0, decide_eq_true hm5] at hld
          cases hbf : b.getD f false with
          | false =>
            rw [hbf] at hgb hld
            rw [hld] at hsn
            simp only [Bool.false_and, Bool.false_eq_true, if_false, List.append_nil] at hsn
            simp (disch := omega) only [go_sem, ↓IntWalk.iteOmega, IntWalk.toNatUp, Nat.reduceEqDiff, Nat.reduceAdd, Nat.reduceMul, Nat.reduceSub, Nat.reduceLT, Nat.reduceLeDiff, Int.reduceToNat, Int.reduceLT, Int.reduceLE, Int.reduceEq, Int.reduceAdd, Int.reduceSub, Int.reduceMul, Int.toNat_natCast, reduceCtorEq, decide_true, decide_false, IntWalk.i64_in, IntWalk.u64_in, IntWalk.u8_in, h1, h2, h3, h7, h8, ho3, ho12, hat, hgb]
            exact ⟨_, by omega, i + 1, by omega, rfl, rfl, by rw [hsn]⟩
          | true =>
            rw [hbf] at hgb hld
            rw [hld] at hsn
            cases hm : hasMode set m with
            | true =>
              rw [hm] at hsn
              simp only [hasMode, decide_eq_true_eq] at hm
              simp only [Bool.and_self, if_true] at hsn
              simp (disch := omega) only [go_sem, ↓IntWalk.iteOmega, IntWalk.toNatUp, Nat.reduceEqDiff, Nat.reduceAdd, Nat.reduceMul, Nat.reduceSub, Nat.reduceLT, Nat.reduceLeDiff, Int.reduceToNat, Int.reduceLT, Int.reduceLE, Int.reduceEq, Int.reduceAdd, Int.reduceSub, Int.reduceMul, Int.toNat_natCast, reduceCtorEq, decide_true, decide_false, IntWalk.i64_in, IntWalk.u64_in, IntWalk.u8_in, h1, h2, h3, h7, h8, ho3, ho12, hat, hgb, hm, hml, hset]
              exact ⟨_, by omega, i + 1, by omega, rfl, rfl, by rw [hsn, marks_snoc]; rfl⟩
            | false =>
              rw [hm] at hsn
              simp only [hasMode, decide_eq_false_iff_not] at hm
              simp only [Bool.and_self, Bool.and_false, Bool.false_eq_true, if_false, List.append_nil] at hsn
              simp (disch := omega) only [go_sem, ↓IntWalk.iteOmega, IntWalk.toNatUp, Nat.reduceEqDiff, Nat.reduceAdd, Nat.reduceMul, Nat.reduceSub, Nat.reduceLT, Nat.reduceLeDiff, Int.reduceToNat, Int.reduceLT, Int.reduceLE, Int.reduceEq, Int.reduceAdd, Int.reduceSub, Int.reduceMul, Int.toNat_natCast, reduceCtorEq, decide_true, decide_false, IntWalk.i64_in, IntWalk.u64_in, IntWalk.u8_in, h1, h2, h3, h7, h8, ho3, ho12, hat, hgb, hm]
              exact ⟨_, by omega, i + 1, by omega, rfl, rfl, by rw [hsn]⟩
        · rw [hld, decide_eq_false hm5] at hsn
          simp only [Bool.and_false, Bool.false_and, Bool.false_eq_true, if_false, List.append_nil] at hsn
          simp (disch := omega) only [go_sem, ↓IntWalk.iteOmega, IntWalk.toNatUp, Nat.reduceEqDiff, Nat.reduceAdd, Nat.reduceMul, Nat.reduceSub, Nat.reduceLT, Nat.reduceLeDiff, Int.reduceToNat, Int.reduceLT, Int.reduceLE, Int.reduceEq, Int.reduceAdd, Int.reduceSub, Int.reduceMul, Int.toNat_natCast, reduceCtorEq, decide_true, decide_false, IntWalk.i64_in, IntWalk.u64_in, IntWalk.u8_in, h1, h2, h3, h7, h8, ho3, ho12, hat]
          exact ⟨_, by omega, i + 1, by omega, rfl, rfl, by rw [hsn]⟩
      · rw [hld, decide_eq_false hm0] at hsn
        simp only [Bool.and_false, Bool.false_and, Bool.false_eq_true, if_false, List.append_nil] at hsn
        simp (disch := omega) only [go_sem, ↓IntWalk.iteOmega, IntWalk.toNatUp, Nat.reduceEqDiff, Nat.reduceAdd, Nat.reduceMul, Nat.reduceSub, Nat.reduceLT, Nat.reduceLeDiff, Int.reduceToNat, Int.reduceLT, Int.reduceLE, Int.reduceEq, Int.reduceAdd, Int.reduceSub, Int.reduceMul, Int.toNat_natCast, reduceCtorEq, decide_true, decide_false, IntWalk.i64_in, IntWalk.u64_in, IntWalk.u8_in, h1, h2, h3, h7, h8, ho3, ho12, hat]
        exact ⟨_, by omega, i + 1, by omega, rfl, rfl, by rw [hsn]⟩
    · have hie : i = ss.length := by omega
      rw [hie, List.take_length] at ho12 hml
      have hin : ∀ x ∈ nextOf ss b m, 0 ≤ x ∧ x < (N : Int) := fun x hx => by
        obtain ⟨p, hp, rfl⟩ := List.mem_map.1 hx
        exact (hw.steps p (List.mem_filter.1 hp).1).2
      have h46' := h46 _ hml
      rw [close_marks hin] at h46'
      have hall : (cB (marks N (nextOf ss b m))).take N = cB (marks N (nextOf ss b m)) := take_len (by rw [cB_length]; exact hml)
      simp (disch := omega) only [go_sem, ↓IntWalk.iteOmega, IntWalk.toNatUp, Nat.reduceEqDiff, Nat.reduceAdd, Nat.reduceMul, Nat.reduceSub, Nat.reduceLT, Nat.reduceLeDiff, Int.reduceToNat, Int.reduceLT, Int.reduceLE, Int.reduceEq, Int.reduceAdd, Int.reduceSub, Int.reduceMul, Int.toNat_natCast, reduceCtorEq, decide_true, decide_false, IntWalk.i64_in, IntWalk.u64_in, IntWalk.u8_in, h1, h2, h3, h7, h8, ho3, ho12, h46', hall, hml]
      rfl
end Go.Proofs.Ytcaemgpificohaa.A
