/- NfaCloses answers true for whatever it is called with; the input reads as it did. -/
import Derived.Test.YtcaemgpificohaaLX
set_option linter.unusedVariables false
set_option linter.unusedSimpArgs false
set_option linter.unnecessarySimpa false
namespace Go.Proofs.Ytcaemgpificohaa.A
open Go
set_option maxRecDepth 20000
theorem closeB_idem (N rows l) : closeB N rows (idxs (closeB N rows l)) = closeB N rows l := by
  refine closeB_unique (closeB_length _ _ _) fun s => ?_
  rw [closeB_get]
  constructor
  · intro h
    induction h with
    | base s hm hs =>
      obtain ⟨t, ht, hb⟩ := mem_idxs.1 hm
      rw [show s = t by omega]
      exact (closeB_get _ _ _ _).1 hb
    | step s t _ hm ht ih => exact .step s t ih hm ht
  · exact fun h => .base s (mem_idxs.2 ⟨s, rfl, (closeB_get _ _ _ _).2 h⟩) h.lt
theorem closeB_nil (N rows) : idxs (closeB N rows []) = [] := by
  have no : ∀ s, ¬ Rch N rows [] s := fun s h => by
    induction h with
    | base s hm _ => cases hm
    | step s t _ _ _ ih => exact ih
  refine List.eq_nil_iff_forall_not_mem.2 fun x hx => ?_
  obtain ⟨s, rfl, hb⟩ := mem_idxs.1 hx
  exact no s ((closeB_get _ _ _ _).1 hb)
theorem idxs_sorted (b : List Bool) : (idxs b).Pairwise (· < ·) := by
  have key : ∀ n, n ≤ b.length → (idxs (b.take n)).Pairwise (· < ·) := fun n => by
    induction n with
    | zero => intro _; exact List.Pairwise.nil
    | succ n ih =>
      intro hn
      rw [idxs_snoc (show n < b.length by omega), List.pairwise_append]
      refine ⟨ih (by omega), ?_, fun x hx y hy => ?_⟩
      · split
        · exact List.pairwise_singleton _ _
        · exact List.Pairwise.nil
      · have hx' := idxs_in hx
        rw [List.length_take] at hx'
        split at hy
        · rw [List.mem_singleton.1 hy]; omega
        · cases hy
  have := key b.length (Nat.le_refl _)
  rwa [List.take_length] at this
theorem sorted_get {l : List Int} (h : l.Pairwise (· < ·)) {i : Nat} (hi : i + 1 < l.length) : l.getD i 0 < l.getD (i + 1) 0 := by
  have := List.pairwise_iff_getElem.1 h i (i + 1) (by omega) hi (by omega)
  simpa [List.getD, hi, show i < l.length by omega] using this
theorem idxs_mono {a b : List Bool} (hl : a.length = b.length) (h : ∀ s, a.getD s false = true → b.getD s false = true) : (idxs a).length ≤ (idxs b).length := by
  have h1 := falses_idxs a
  have h2 := falses_idxs b
  have : falses b ≤ falses a := by
    unfold falses
    rw [hl]
    refine sum_map_le _ _ _ fun s _ => ?_
    cases ha : a.getD s false with
    | true => rw [h s ha]; simp
    | false => split <;> simp
  omega
def nzCloses : Nat → Option (List (Nat × Nat))
  | 10 => some [(0, 1), (0, 3), (1, 6), (3, 6), (0, 8), (0, 9)]
  | _ => none
theorem lookCloses : lookedAt (EX md0 XL6) nzCloses 4 Try.f7 = true := by kernel_rfl
/-- The last two loops: whatever else stands in memory. -/
theorem closes_tail {A B : List Int} {Q : WPost} (a : AAct) (o : Ob) (nx : Nat) (hk : A.length ≤ 7 ∧ B.length ≤ 7) (hmem : ∀ x ∈ A, x ∈ B) (hsort : A.Pairwise (· < ·)) (h12 : a 12 = slI A) (h13 : a 13 = slI B) (h14 : a 14 = .int .i64 0) (hQ : ∀ a o nx, a 8 = .bool true → Q .ret a o nx) :
    WP (EX md0 XL6) noR 10 nzCloses (pathC [1, 1, 1, 1, 1, 1, 1, 1, 0, 1, 0] (Try.f7.body.getD .skip)) a o nx (blockQ 2 (thenQ (EX md0 XL6) noR 10 nzCloses (pathC [1, 1, 1, 1, 1, 1, 1, 1, 1] (Try.f7.body.getD .skip)) Q)) := by
  simp only [Try.f7, Option.getD_some, pathC]
  refine WP_loop (fun m a o nx => ∃ i, i ≤ A.length ∧ m = A.length - i ∧ a 12 = slI A ∧ a 13 = slI B ∧ a 14 = .int .i64 i) A.length ?_ ⟨0, by omega, by omega, h12, h13, h14⟩ ?_
  · omega
  · clear h12 h13 h14
    rintro m a o nx ⟨i, hi, rfl, h12, h13, h14⟩
    by_cases hlt : i < A.length
    · have hgA := cI_get (s := 1) hlt
      have hmA := hmem _ (getD_mem hlt 0)
      have hsA := fun h => sorted_get hsort (i := i - 1) h
      generalize hx : A.getD i 0 = x at hgA hmA
      simp (disch := omega) only [go_sem, ↓IntWalk.iteOmega, IntWalk.toNatUp, Nat.reduceEqDiff, Nat.reduceAdd, Nat.reduceMul, Nat.reduceSub, Nat.reduceLT, Nat.reduceLeDiff, Int.reduceToNat, Int.reduceLT, Int.reduceLE, Int.reduceEq, Int.reduceAdd, Int.reduceSub, Int.reduceMul, Int.toNat_natCast, reduceCtorEq, decide_true, decide_false, IntWalk.i64_in, IntWalk.u64_in, IntWalk.u8_in, h12, h13, h14, nzCloses]
      refine WP_loop (fun m a o nx => ∃ j, j ≤ B.length ∧ m = B.length - j ∧ a 12 = slI A ∧ a 13 = slI B ∧ a 14 = .int .i64 i ∧ a 15 = .bool (decide (x ∈ B.take j)) ∧ a 16 = .int .i64 j) B.length ?_ ?_ ?_
      · omega
      · refine ⟨0, by omega, by omega, ?_⟩
        simp (disch := omega) only [go_sem, ↓IntWalk.iteOmega, IntWalk.toNatUp, Nat.reduceEqDiff, Nat.reduceAdd, Nat.reduceMul, Nat.reduceSub, Nat.reduceLT, Nat.reduceLeDiff, Int.reduceToNat, Int.reduceLT, Int.reduceLE, Int.reduceEq, Int.reduceAdd, Int.reduceSub, Int.reduceMul, Int.toNat_natCast, reduceCtorEq, decide_true, decide_false, IntWalk.i64_in, IntWalk.u64_in, IntWalk.u8_in, h12, h13, h14, List.take_zero]
        simp
      · clear h12 h13 h14
        rintro m a o nx ⟨j, hj, rfl, h12, h13, h14, h15, h16⟩
        by_cases hjl : j < B.length
        · have hgB := cI_get (s := 1) hjl
          have htk := take_succ_getD hjl 0
          generalize B.getD j 0 = y at hgB htk
          cases hd : decide (x ∈ B.take j) with
          | true =>
            rw [hd] at h15
            simp (disch := omega) only [go_sem, ↓IntWalk.iteOmega, IntWalk.toNatUp, Nat.reduceEqDiff, Nat.reduceAdd, Nat.reduceMul, Nat.reduceSub, Nat.reduceLT, Nat.reduceLeDiff, Int.reduceToNat, Int.reduceLT, Int.reduceLE, Int.reduceEq, Int.reduceAdd, Int.reduceSub, Int.reduceMul, Int.toNat_natCast, reduceCtorEq, decide_true, decide_false, IntWalk.i64_in, IntWalk.u64_in, IntWalk.u8_in, h12, h13, h14, h15, h16, nzCloses]
            refine ⟨_, ?_, j + 1, by omega, rfl, ?_, rfl⟩
            · omega
            · have : x ∈ B.take (j + 1) := by rw [htk]; exact List.mem_append_left _ (of_decide_eq_true hd)
              rw [decide_eq_true this]
          | false =>
            rw [hd] at h15
            have hn := of_decide_eq_false hd
            by_cases hxy : x = y
            · simp (disch := omega) only [go_sem, ↓IntWalk.iteOmega, IntWalk.toNatUp, Nat.reduceEqDiff, Nat.reduceAdd, Nat.reduceMul, Nat.reduceSub, Nat.reduceLT, Nat.reduceLeDiff, Int.reduceToNat, Int.reduceLT, Int.reduceLE, Int.reduceEq, Int.reduceAdd, Int.reduceSub, Int.reduceMul, Int.toNat_natCast, reduceCtorEq, decide_true, decide_false, IntWalk.i64_in, IntWalk.u64_in, IntWalk.u8_in, h12, h13, h14, h15, h16, hgA, hgB, hxy, nzCloses]
              refine ⟨_, ?_, j + 1, by omega, rfl, ?_, rfl⟩
              · omega
              · have : y ∈ B.take (j + 1) := by rw [htk]; simp
                rw [decide_eq_true this]
            · simp (disch := omega) only [go_sem, ↓IntWalk.iteOmega, IntWalk.toNatUp, Nat.reduceEqDiff, Nat.reduceAdd, Nat.reduceMul, Nat.reduceSub, Nat.reduceLT, Nat.reduceLeDiff, Int.reduceToNat, Int.reduceLT, Int.reduceLE, Int.reduceEq, Int.reduceAdd, Int.reduceSub, Int.reduceMul, Int.toNat_natCast, reduceCtorEq, decide_true, decide_false, IntWalk.i64_in, IntWalk.u64_in, IntWalk.u8_in, h12, h13, h14, h15, h16, hgA, hgB, hxy, nzCloses]
              refine ⟨_, ?_, j + 1, by omega, rfl, ?_, rfl⟩
              · omega
              · have : ¬ x ∈ B.take (j + 1) := by rw [htk, List.mem_append, List.mem_singleton]; exact fun h => h.elim hn hxy
                rw [decide_eq_false this]
        · have hje : j = B.length := by omega
          rw [hje, List.take_length, decide_eq_true hmA] at h15
          by_cases hi0 : 0 < i
          · have hs := hsA (by omega)
            rw [show i - 1 + 1 = i by omega, hx] at hs
            have hgA' := cI_get (s := 1) (show i - 1 < A.length by omega)
            simp (disch := omega) only [go_sem, ↓IntWalk.iteOmega, IntWalk.toNatUp, Nat.reduceEqDiff, Nat.reduceAdd, Nat.reduceMul, Nat.reduceSub, Nat.reduceLT, Nat.reduceLeDiff, Int.reduceToNat, Int.reduceLT, Int.reduceLE, Int.reduceEq, Int.reduceAdd, Int.reduceSub, Int.reduceMul, Int.toNat_natCast, reduceCtorEq, decide_true, decide_false, IntWalk.i64_in, IntWalk.u64_in, IntWalk.u8_in, h12, h13, h14, h15, h16, hgA, hgA', nzCloses]
            exact ⟨_, by omega, i + 1, by omega, rfl, rfl⟩
          · simp (disch := omega) only [go_sem, ↓IntWalk.iteOmega, IntWalk.toNatUp, Nat.reduceEqDiff, Nat.reduceAdd, Nat.reduceMul, Nat.reduceSub, Nat.reduceLT, Nat.reduceLeDiff, Int.reduceToNat, Int.reduceLT, Int.reduceLE, Int.reduceEq, Int.reduceAdd, Int.reduceSub, Int.reduceMul, Int.toNat_natCast, reduceCtorEq, decide_true, decide_false, IntWalk.i64_in, IntWalk.u64_in, IntWalk.u8_in, h12, h13, h14, h15, h16, nzCloses]
            exact ⟨_, by omega, i + 1, by omega, rfl, rfl⟩
    · simp (disch := omega) only [go_sem, ↓IntWalk.iteOmega, IntWalk.toNatUp, Nat.reduceEqDiff, Nat.reduceAdd, Nat.reduceMul, Nat.reduceSub, Nat.reduceLT, Nat.reduceLeDiff, Int.reduceToNat, Int.reduceLT, Int.reduceLE, Int.reduceEq, Int.reduceAdd, Int.reduceSub, Int.reduceMul, Int.toNat_natCast, reduceCtorEq, decide_true, decide_false, IntWalk.i64_in, IntWalk.u64_in, IntWalk.u8_in, h12, h13, h14, nzCloses]
      exact hQ _ _ _ (by simp (disch := omega) only [go_sem, ↓IntWalk.iteOmega, IntWalk.toNatUp, Nat.reduceEqDiff, Nat.reduceAdd, Nat.reduceMul, Nat.reduceSub, Nat.reduceLT, Nat.reduceLeDiff, Int.reduceToNat, Int.reduceLT, Int.reduceLE, Int.reduceEq, Int.reduceAdd, Int.reduceSub, Int.reduceMul, Int.toNat_natCast, reduceCtorEq, decide_true, decide_false, IntWalk.i64_in, IntWalk.u64_in, IntWalk.u8_in])
theorem closes_ok (size : Int) (ns states : List Int) (one : Int) : Ok Try.prog 7 [.int .i64 size, slI ns, slI states, .int .i64 one] (.bool true) := by
  refine ok_of_WP (E := EX md0 XL6) (cr := noR) XL6_ok (noR_ok _) mixed (k := 10) Try.func7 lookCloses rfl ?_
  have hw := make_wf size ns 0 0
  have hkn := XL6_known
  have hmk := XL6_make size ns 0 0
  have hwi := XL6_within
  have hnc := XL6_nclose hw
  have hN := sizeN_in size
  simp only [Try.f7, Option.getD_some]
  unfold madeV at hmk
  generalize sizeN size = N at *
  generalize (0 : Int) % (N : Int) = S at *
  generalize stepsOf N (ns.take 14) = ss at *
  generalize freesOf N (ns.take 14) = fs at *
  simp (disch := omega) only [go_sem, ↓IntWalk.iteOmega, IntWalk.toNatUp, Nat.reduceEqDiff, Nat.reduceAdd, Nat.reduceMul, Nat.reduceSub, Nat.reduceLT, Nat.reduceLeDiff, Int.reduceToNat, Int.reduceLT, Int.reduceLE, Int.reduceEq, Int.reduceAdd, Int.reduceSub, Int.reduceMul, Int.toNat_natCast, reduceCtorEq, decide_true, decide_false, IntWalk.i64_in, IntWalk.u64_in, IntWalk.u8_in, hkn, hmk, nzCloses]
  refine WP_loop (fun m a o nx => ∃ i, i ≤ 6 ∧ i ≤ states.length ∧ m = 6 - i ∧ 3 ≤ nx ∧ a 2 = slI states ∧ a 3 = .int .i64 one ∧ a 9 = .ptr (2, 9) (2, 9) 0 ∧ a 11 = .int .i64 i ∧ HS 3 1 41 o nx (a 10) i (cI ((states.take i).map (· % (N : Int)))) ∧
    o (2, 9) = some (.row ⟨28, 1, (2, 9), false, true, [.int .i64 N, .int .i64 S, .int .i64 S, .sl ss.length (cS ss), .sl fs.length (cP fs)]⟩)) 6 ?_ ?_ ?_
  · omega
  · refine ⟨0, by omega, by omega, by omega, ?_⟩
    simp (disch := omega) only [go_sem, ↓IntWalk.iteOmega, IntWalk.toNatUp, Nat.reduceEqDiff, Nat.reduceAdd, Nat.reduceMul, Nat.reduceSub, Nat.reduceLT, Nat.reduceLeDiff, Int.reduceToNat, Int.reduceLT, Int.reduceLE, Int.reduceEq, Int.reduceAdd, Int.reduceSub, Int.reduceMul, Int.toNat_natCast, reduceCtorEq, decide_true, decide_false, IntWalk.i64_in, IntWalk.u64_in, IntWalk.u8_in, List.take_zero]
    exact HS.nil
  · rintro m a o nx ⟨i, hi, his, rfl, hnx, h2, h3, h9, h11, hHS, ho9⟩
    by_cases hlt : i < states.length ∧ i < 6
    · obtain ⟨hlt, hl6⟩ := hlt
      have hg := cI_get (s := 1) hlt
      have htk := take_succ_getD hlt 0
      generalize states.getD i 0 = x at hg htk
      generalize hv : a 10 = v at hHS
      rcases hHS with ⟨rfl, e2, e3⟩ | ⟨i1, g1, rfl, hi1, hrow, hlen⟩
      · simp (disch := omega) only [go_sem, ↓IntWalk.iteOmega, IntWalk.toNatUp, Nat.reduceEqDiff, Nat.reduceAdd, Nat.reduceMul, Nat.reduceSub, Nat.reduceLT, Nat.reduceLeDiff, Int.reduceToNat, Int.reduceLT, Int.reduceLE, Int.reduceEq, Int.reduceAdd, Int.reduceSub, Int.reduceMul, Int.toNat_natCast, reduceCtorEq, decide_true, decide_false, IntWalk.i64_in, IntWalk.u64_in, IntWalk.u8_in, h2, h3, h9, h11, hv, ho9, hg, hwi, nzCloses]
        have e4 : (states.take i).map (· % (N : Int)) = [] := cI_inj e3
        refine ⟨_, ?_, i + 1, by omega, by omega, rfl, rfl, .inr ⟨nx + 1, (nx + 1, 41), ?_, by omega, ?_, ?_⟩⟩
        · omega
        · rw [e2]
        · rw [htk, List.map_append, e4]; simp [upd_app, cI]
        · rw [htk, List.map_append, e4, e2]; rfl
      · have hall : (cI ((states.take i).map (· % (N : Int)))).take i = cI ((states.take i).map (· % (N : Int))) := take_len (by rw [hlen, Nat.mul_one])
        rw [Nat.mul_one] at hlen
        simp (disch := omega) only [go_sem, ↓IntWalk.iteOmega, IntWalk.toNatUp, Nat.reduceEqDiff, Nat.reduceAdd, Nat.reduceMul, Nat.reduceSub, Nat.reduceLT, Nat.reduceLeDiff, Int.reduceToNat, Int.reduceLT, Int.reduceLE, Int.reduceEq, Int.reduceAdd, Int.reduceSub, Int.reduceMul, Int.toNat_natCast, reduceCtorEq, decide_true, decide_false, IntWalk.i64_in, IntWalk.u64_in, IntWalk.u8_in, h2, h3, h9, h11, hv, ho9, hg, hwi, hrow, hlen, hall, nzCloses]
        refine ⟨_, ?_, i + 1, by omega, by omega, rfl, rfl, .inr ⟨i1, (nx + 1, 41), rfl, by omega, ?_, ?_⟩⟩
        · omega
        · rw [htk, List.map_append, cI_app]; simp [upd_app, cI]
        · rw [htk, List.map_append, cI_app, List.length_append, hlen]; simp [cI]
    · have hlen := hHS.len
      have hmN : ∀ x ∈ (states.take i).map (· % (N : Int)), 0 ≤ x ∧ x < (N : Int) := fun x hx => by
        obtain ⟨y, _, rfl⟩ := List.mem_map.1 hx
        exact ⟨Int.emod_nonneg _ (by omega), Int.emod_lt_of_pos _ (by omega)⟩
      generalize (states.take i).map (· % (N : Int)) = l at *
      rw [cI_length, Nat.mul_one] at hlen
      have hc1 := hnc l (by omega)
      rw [slI, hlen] at hc1
      generalize hA : closeB N (rowsOf N fs) l = A at *
      have hAN : A.length = N := by rw [← hA, closeB_length]
      have hAl := idxs_le A
      have hc2 := hnc (l ++ [one % (N : Int)]) (by rw [List.length_append, List.length_singleton]; omega)
      rw [slI, List.length_append, List.length_singleton, hlen, cI_app] at hc2
      have hc3 := hnc (idxs A) (by omega)
      have hid : closeB N (rowsOf N fs) (idxs A) = A := by rw [← hA, closeB_idem]
      rw [hid] at hc3
      have hc4 : XL6 28 [nfaV N S S ss fs, .sl 0 []] = some (.sl 0 []) := by
        have := hnc [] (by simp)
        rw [closeB_nil] at this
        exact this
      have hsub : ∀ s, A.getD s false = true → (closeB N (rowsOf N fs) (l ++ [one % (N : Int)])).getD s false = true := fun s h => by
        rw [← hA] at h
        rw [closeB_get] at h ⊢
        exact h.mono fun t ht _ => List.mem_append_left _ ht
      have hBN := closeB_length N (rowsOf N fs) (l ++ [one % (N : Int)])
      generalize closeB N (rowsOf N fs) (l ++ [one % (N : Int)]) = B at *
      have hBl := idxs_le B
      have hmono := idxs_mono (by rw [hAN, hBN]) hsub
      have hii := XL6_ints (idxs A) (idxs A) (by omega)
      have hmem : ∀ x ∈ idxs A, x ∈ idxs B := fun x hx => by
        obtain ⟨s, rfl, hs⟩ := mem_idxs.1 hx
        exact mem_idxs.2 ⟨s, rfl, hsub s hs⟩
      have hsort := idxs_sorted A
      have hcase : (i < states.length ∧ ¬ i < 6) ∨ ¬ i < states.length := by omega
      rcases hHS with ⟨hv, e2, e3⟩ | ⟨i1, g1, hv, hi1, hrow, hlen'⟩
      · have hl0 : l = [] := cI_inj e3
        have hc1' : XL6 28 [nfaV N S S ss fs, .sl 0 []] = some (slI (idxs A)) := by rw [hl0, e2] at hc1; exact hc1
        have hc2' : XL6 28 [nfaV N S S ss fs, .sl 1 [.int .i64 (one % (N : Int))]] = some (slI (idxs B)) := by rw [hl0, e2] at hc2; exact hc2
        have c1 : ¬ i < 6 ∨ ¬ i < states.length := by omega
        have c2 : i < 6 := by omega
        have hA0 : (idxs A).length = 0 := by rw [← hA, hl0, closeB_nil]; rfl
        simp (disch := omega) only [go_sem, ↓IntWalk.iteOmega, IntWalk.toNatUp, Nat.reduceEqDiff, Nat.reduceAdd, Nat.reduceMul, Nat.reduceSub, Nat.reduceLT, Nat.reduceLeDiff, Int.reduceToNat, Int.reduceLT, Int.reduceLE, Int.reduceEq, Int.reduceAdd, Int.reduceSub, Int.reduceMul, Int.toNat_natCast, reduceCtorEq, decide_true, decide_false, IntWalk.i64_in, IntWalk.u64_in, IntWalk.u8_in, h2, h3, h9, h11, hv, ho9, hc1', hc2', hc3, hc4, hii, hwi, nzCloses]
        exact closes_tail _ _ _ (by omega) hmem hsort (by simp (disch := omega) only [go_sem, ↓IntWalk.iteOmega, IntWalk.toNatUp, Nat.reduceEqDiff, Nat.reduceAdd, Nat.reduceMul, Nat.reduceSub, Nat.reduceLT, Nat.reduceLeDiff, Int.reduceToNat, Int.reduceLT, Int.reduceLE, Int.reduceEq, Int.reduceAdd, Int.reduceSub, Int.reduceMul, Int.toNat_natCast, reduceCtorEq, decide_true, decide_false, IntWalk.i64_in, IntWalk.u64_in, IntWalk.u8_in]) (by simp (disch := omega) only [go_sem, ↓IntWalk.iteOmega, IntWalk.toNatUp, Nat.reduceEqDiff, Nat.reduceAdd, Nat.reduceMul, Nat.reduceSub, Nat.reduceLT, Nat.reduceLeDiff, Int.reduceToNat, Int.reduceLT, Int.reduceLE, Int.reduceEq, Int.reduceAdd, Int.reduceSub, Int.reduceMul, Int.toNat_natCast, reduceCtorEq, decide_true, decide_false, IntWalk.i64_in, IntWalk.u64_in, IntWalk.u8_in]) (by simp (disch := omega) only [go_sem, ↓IntWalk.iteOmega, IntWalk.toNatUp, Nat.reduceEqDiff, Nat.reduceAdd, Nat.reduceMul, Nat.reduceSub, Nat.reduceLT, Nat.reduceLeDiff, Int.reduceToNat, Int.reduceLT, Int.reduceLE, Int.reduceEq, Int.reduceAdd, Int.reduceSub, Int.reduceMul, Int.toNat_natCast, reduceCtorEq, decide_true, decide_false, IntWalk.i64_in, IntWalk.u64_in, IntWalk.u8_in]) (fun a o nx h => ⟨.inr rfl, by rw [h, view_bool]⟩)
      · have hall : (cI l).take i = cI l := take_len (by rw [cI_length, hlen])
        have hall2 : (cI l ++ [AV.int .i64 (one % (N : Int))]).take (i + 1) = cI l ++ [AV.int .i64 (one % (N : Int))] := take_len (by rw [List.length_append, cI_length, hlen]; rfl)
        rw [← cI_one] at hc2
        rcases hcase with ⟨c1, c2⟩ | c1
        all_goals
          simp (disch := omega) only [go_sem, ↓IntWalk.iteOmega, IntWalk.toNatUp, Nat.reduceEqDiff, Nat.reduceAdd, Nat.reduceMul, Nat.reduceSub, Nat.reduceLT, Nat.reduceLeDiff, Int.reduceToNat, Int.reduceLT, Int.reduceLE, Int.reduceEq, Int.reduceAdd, Int.reduceSub, Int.reduceMul, Int.toNat_natCast, reduceCtorEq, decide_true, decide_false, IntWalk.i64_in, IntWalk.u64_in, IntWalk.u8_in, h2, h3, h9, h11, hv, ho9, hall, hall2, hc1, hc2, hc3, hc4, hii, hwi, hlen, hrow, nzCloses]
          exact closes_tail _ _ _ (by omega) hmem hsort (by simp (disch := omega) only [go_sem, ↓IntWalk.iteOmega, IntWalk.toNatUp, Nat.reduceEqDiff, Nat.reduceAdd, Nat.reduceMul, Nat.reduceSub, Nat.reduceLT, Nat.reduceLeDiff, Int.reduceToNat, Int.reduceLT, Int.reduceLE, Int.reduceEq, Int.reduceAdd, Int.reduceSub, Int.reduceMul, Int.toNat_natCast, reduceCtorEq, decide_true, decide_false, IntWalk.i64_in, IntWalk.u64_in, IntWalk.u8_in]) (by simp (disch := omega) only [go_sem, ↓IntWalk.iteOmega, IntWalk.toNatUp, Nat.reduceEqDiff, Nat.reduceAdd, Nat.reduceMul, Nat.reduceSub, Nat.reduceLT, Nat.reduceLeDiff, Int.reduceToNat, Int.reduceLT, Int.reduceLE, Int.reduceEq, Int.reduceAdd, Int.reduceSub, Int.reduceMul, Int.toNat_natCast, reduceCtorEq, decide_true, decide_false, IntWalk.i64_in, IntWalk.u64_in, IntWalk.u8_in]) (by simp (disch := omega) only [go_sem, ↓IntWalk.iteOmega, IntWalk.toNatUp, Nat.reduceEqDiff, Nat.reduceAdd, Nat.reduceMul, Nat.reduceSub, Nat.reduceLT, Nat.reduceLeDiff, Int.reduceToNat, Int.reduceLT, Int.reduceLE, Int.reduceEq, Int.reduceAdd, Int.reduceSub, Int.reduceMul, Int.toNat_natCast, reduceCtorEq, decide_true, decide_false, IntWalk.i64_in, IntWalk.u64_in, IntWalk.u8_in]) (fun a o nx h => ⟨.inr rfl, by rw [h, view_bool]⟩)
end Go.Proofs.Ytcaemgpificohaa.A

namespace Go.Proofs.Ytcaemgpificohaa
open Go Go.Proofs.Ytcaemgpificohaa.A
set_option maxRecDepth 100000 in
theorem nfaCloses_lifted (os : Os) (started : os.Started) (H : Type) (enc : TypeId × Value → H) :
    ReturnsInHanded {} Try.checked os 7 .any (Rows.nfaClosesSpec.pre6 enc Try.prog Try.f7 Rows.nfaClosesRow.domain false) (Rows.nfaClosesSpec.post enc Try.prog Try.f7 false true false false) :=
  law_lifted (C := Try.checked) Try.own started (by kernel_rfl) Try.func7
    (ChangeSpec.witness6 (enc := enc) (C := Try.checked) false ⟨#[], #[.int .i64 0, .slice none 0 0, .slice none 0 0, .int .i64 0], []⟩ 8 (by kernel_rfl) (by kernel_rfl) (by kernel_rfl) (by kernel_rfl))
    Try.laidOut (ks := [3, 40]) (by kernel_rfl) (by kernel_rfl) (tb := 4) (by kernel_rfl) (by kernel_rfl) rfl
    (fun ds hds => by
      match ds, hds with
      | [_, _, _, _], _ => exact ⟨rfl, rfl, rfl⟩)
    (fun xs hxs => by
      rw [show Try.f7.params.toList = [3, 40, 40, 3] from rfl] at hxs
      match xs, hxs with
      | [x1, x2, x3, x4], ⟨h1, h2, h3, h4, _⟩ =>
        obtain ⟨n1, rfl, _⟩ := arg_int (k := .i64) (by kernel_rfl) h1
        obtain ⟨n2, rfl, _⟩ := arg_ints (e := 3) (by kernel_rfl) (by kernel_rfl) h2
        obtain ⟨n3, rfl, _⟩ := arg_ints (e := 3) (by kernel_rfl) (by kernel_rfl) h3
        obtain ⟨n4, rfl, _⟩ := arg_int (k := .i64) (by kernel_rfl) h4
        exact closes_ok n1 n2 n3 n4)
theorem nfaCloses_holds : Rows.NfaClosesSaid :=
  OpenClaim.holds_of_wide 7 Try.f7 rfl rfl rfl rfl rfl rfl rfl ⟨rfl, rfl, rfl, rfl, rfl⟩ rfl rfl rfl rfl rfl (by kernel_rfl) Try.func7 (by kernel_rfl)
    (of_decide_eq_true (by kernel_rfl)) (by unfold Func.isWrapper; first | (rw [if_pos (by decide +kernel)]; kernel_rfl) | (rw [if_neg (by decide +kernel)]; exact ⟨rfl, rfl⟩))
    (fun os started H enc _ => nfaCloses_lifted os started H enc)
end Go.Proofs.Ytcaemgpificohaa
