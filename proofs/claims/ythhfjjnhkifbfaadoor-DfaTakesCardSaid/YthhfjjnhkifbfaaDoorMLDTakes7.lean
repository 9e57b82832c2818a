/- The document's Close, Begin, Step, Run: contracts. -/
import Derived.Test.YthhfjjnhkifbfaaDoorMLDTakes1
import Derived.Test.YthhfjjnhkifbfaaDoorMLDTakes2
import Derived.Test.YthhfjjnhkifbfaaDoorMLDTakes3
import Derived.Test.YthhfjjnhkifbfaaDoorMLDTakes4
import Derived.Test.YthhfjjnhkifbfaaDoorMLDTakes5
import Derived.Test.YthhfjjnhkifbfaaDoorMLDTakes6
set_option linter.unusedVariables false
set_option linter.unusedSimpArgs false
set_option linter.unnecessarySimpa false
namespace Go.Proofs.YthhfjjnhkifbfaaDoor.A
open Go
set_option maxRecDepth 20000
/-! ### in -/
def R42 (args : List AV) (r : AV) : Prop := ∃ (N S F s : Int) (ss : List (Int × Int × Int)) (fs : List (Int × Int)), args = [nfaV N S F ss fs, .int .i64 s] ∧ r = .bool (decide (0 ≤ s ∧ s < N))
theorem R42_fn : Fun1 R42 := by
  rintro args r r' ⟨N, S, F, s, ss, fs, rfl, rfl⟩ ⟨N', S', F', s', ss', fs', h, rfl⟩
  simp only [nfaV, List.cons.injEq, AV.agg.injEq, AV.int.injEq, AV.sl.injEq, true_and, and_true] at h
  obtain ⟨⟨h1, _⟩, h2⟩ := h
  rw [h1, h2]
/-! ### closed, List as relations -/
theorem slB_inj {x y : List Bool} (h : slB x = slB y) : x = y := by
  unfold slB at h; injection h with _ h; exact cB_inj h
def R46 (args : List AV) (r : AV) : Prop := ∃ (N : Nat) (S F : Int) (ss : List (Int × Int × Int)) (fs : List (Int × Int)) (is : List Bool), Wf N S F ss fs ∧ is.length = N ∧ args = [nfaV N S F ss fs, slB is] ∧ r = slB (closeB N (rowsOf N fs) (idxs is))
theorem R46_fn : Fun1 R46 := by
  rintro args r r' ⟨N, S, F, ss, fs, is, _, _, rfl, rfl⟩ ⟨N', S', F', ss', fs', is', _, _, h, rfl⟩
  simp only [nfaV, List.cons.injEq, AV.agg.injEq, AV.int.injEq, AV.sl.injEq, true_and, and_true] at h
  obtain ⟨⟨h1, _, _, _, _, h2⟩, _, h3⟩ := h
  have h1 : N = N' := by omega
  rw [h1, cP_inj h2, cB_inj h3]
theorem R46_ok (args r) (h : R46 args r) : Ok Tryd.prog 47 args r := by
  obtain ⟨N, S, F, ss, fs, is, h1, h2, rfl, rfl⟩ := h
  exact closed_ok N S F ss fs h1 is h2
def R45 (args : List AV) (r : AV) : Prop := ∃ b : List Bool, b.length ≤ 100000 ∧ args = [slB b] ∧ r = slI (idxs b)
theorem R45_fn : Fun1 R45 := by
  rintro args r r' ⟨b, _, rfl, rfl⟩ ⟨b', _, h, rfl⟩
  simp only [List.cons.injEq, AV.sl.injEq, and_true] at h
  rw [cB_inj h.2]
theorem idxs_mem_marks {N : Nat} {l : List Int} (h : ∀ x ∈ l, 0 ≤ x ∧ x < (N : Int)) (s : Nat) : (s : Int) ∈ idxs (marks N l) ↔ (s : Int) ∈ l := by
  rw [mem_idxs, ← marks_get N l h s]
  exact ⟨fun ⟨t, ht, hb⟩ => by rwa [show s = t by omega], fun hb => ⟨s, rfl, hb⟩⟩
theorem close_marks {N : Nat} {rows : List (List Int)} {l : List Int} (h : ∀ x ∈ l, 0 ≤ x ∧ x < (N : Int)) : closeB N rows (idxs (marks N l)) = closeB N rows l := closeB_congr fun s _ => idxs_mem_marks h s

noncomputable def X29 : FuncId → List AV → Option AV := tabLook [(47, tRel R46)]
theorem X29_ok : CPSound Tryd.prog X29 := tab_cons (tab_nil _) (tRel_ok R46_ok)
theorem X29_46 {N : Nat} {S F : Int} {ss fs} (hw : Wf N S F ss fs) (is : List Bool) (h : is.length = N) : X29 47 [nfaV N S F ss fs, .sl N (cB is)] = some (slB (closeB N (rowsOf N fs) (idxs is))) := by
  show tRel R46 _ = _
  exact tRel_eq R46_fn ⟨N, S, F, ss, fs, is, hw, h, by rw [slB, h], rfl⟩
/-! ### Close -/
def inN (N : Nat) (x : Int) : Bool := decide (0 ≤ x ∧ x < (N : Int))
/-! ### Begin, Step, Run -/
theorem look43 (X) : lookedAt (EX md0 X) (fun _ => none) 1 Tryd.f36 = true := by kernel_rfl
theorem begin_ok (N : Nat) (S F : Int) (ss) (fs : List (Int × Int)) (hw : Wf N S F ss fs) : Ok Tryd.prog 36 [nfaV N S F ss fs] (slB (closeB N (rowsOf N fs) [S])) := by
  refine ok_of_WP (E := EX md0 X29) (cr := noR) X29_ok (noR_ok _) mixed (k := 0) Tryd.func36 (look43 _) rfl ?_
  have hN := hw.n
  have hS := hw.s
  obtain ⟨S, rfl⟩ := Int.eq_ofNat_of_zero_le hS.1
  have hset := cB_set (List.replicate N false) S true (by simp; omega)
  have hm : (List.replicate N false).set S true = marks N [(S : Int)] := rfl
  rw [hm] at hset
  have hml := marks_length N [(S : Int)]
  have h46 := X29_46 hw (marks N [(S : Int)]) hml
  have hall : (cB (marks N [(S : Int)])).take N = cB (marks N [(S : Int)]) := take_len (by rw [cB_length]; exact hml)
  rw [close_marks (fun x hx => by rw [List.mem_singleton.1 hx]; exact hS)] at h46
  simp only [Tryd.f36, Option.getD_some]
  simp (disch := omega) only [go_sem, ↓IntWalk.iteOmega, IntWalk.toNatUp, Nat.reduceEqDiff, Nat.reduceAdd, Nat.reduceMul, Nat.reduceSub, Nat.reduceLT, Nat.reduceLeDiff, Int.reduceToNat, Int.reduceLT, Int.reduceLE, Int.reduceEq, Int.reduceAdd, Int.reduceSub, Int.reduceMul, Int.toNat_natCast, reduceCtorEq, decide_true, decide_false, IntWalk.i64_in, IntWalk.u64_in, IntWalk.u8_in, rep_bool, hset, hml, h46, hall]
theorem look44 (X) : lookedAt (EX md0 X) (fun _ => none) 3 Tryd.f37 = true := by kernel_rfl
theorem step_ok (N : Nat) (S F : Int) (ss) (fs : List (Int × Int)) (hw : Wf N S F ss fs) (b : List Bool) (hb : b.length = N) (m : Int) : Ok Tryd.prog 37 [nfaV N S F ss fs, slB b, .int .i64 m] (slB (stepB N (rowsOf N fs) ss b m)) := by
  refine ok_of_WP (E := EX md0 X29) (cr := noR) X29_ok (noR_ok _) mixed (k := ss.length + 1) Tryd.func37 (look44 _) rfl ?_
  have hN := hw.n
  have hls := hw.ls
  have h46 := X29_46 hw
  simp only [Tryd.f37, Option.getD_some]
  simp (disch := omega) only [go_sem, ↓IntWalk.iteOmega, IntWalk.toNatUp, Nat.reduceEqDiff, Nat.reduceAdd, Nat.reduceMul, Nat.reduceSub, Nat.reduceLT, Nat.reduceLeDiff, Int.reduceToNat, Int.reduceLT, Int.reduceLE, Int.reduceEq, Int.reduceAdd, Int.reduceSub, Int.reduceMul, Int.toNat_natCast, reduceCtorEq, decide_true, decide_false, IntWalk.i64_in, IntWalk.u64_in, IntWalk.u8_in, rep_bool]
  refine WP_loop (fun v a o nx => ∃ i, i ≤ ss.length ∧ v = ss.length - i ∧ 2 ≤ nx ∧ a 1 = slB b ∧ a 2 = .int .i64 m ∧ a 3 = .ptr (0, 3) (0, 3) 0 ∧ a 7 = .ref (1, 12) (1, 12) 0 N ∧ a 8 = .int .i64 i ∧
    o (0, 3) = some (.row ⟨41, 1, (0, 3), false, true, [.int .i64 N, .int .i64 S, .int .i64 F, .sl ss.length (cS ss), .sl fs.length (cP fs)]⟩) ∧ o (1, 12) = some (.row ⟨4, 1, (1, 12), false, true, cB (marks N (nextOf (ss.take i) b m))⟩)) ss.length ?_ ?_ ?_
  · omega
  · refine ⟨0, by omega, by omega, by omega, ?_⟩
    simp (disch := omega) only [go_sem, ↓IntWalk.iteOmega, IntWalk.toNatUp, Nat.reduceEqDiff, Nat.reduceAdd, Nat.reduceMul, Nat.reduceSub, Nat.reduceLT, Nat.reduceLeDiff, Int.reduceToNat, Int.reduceLT, Int.reduceLE, Int.reduceEq, Int.reduceAdd, Int.reduceSub, Int.reduceMul, Int.toNat_natCast, reduceCtorEq, decide_true, decide_false, IntWalk.i64_in, IntWalk.u64_in, IntWalk.u8_in, List.take_zero]
    rfl
  · rintro v a o nx ⟨i, hi, rfl, hnx, h1, h2, h3, h7, h8, ho3, ho12⟩
    have hml := marks_length N (nextOf (ss.take i) b m)
    by_cases hlt : i < ss.length
    · have hat := cS_at hlt
      obtain ⟨⟨q1, q2⟩, q3, q4⟩ := hw.steps _ (getD_mem hlt (0, 0, 0))
      have htk := take_succ_getD hlt (0, 0, 0)
      generalize ss.getD i (0, 0, 0) = p at hat q1 q2 q3 q4 htk
      obtain ⟨f, t, set⟩ := p
      simp only at hat q1 q2 q3 q4
      obtain ⟨f, rfl⟩ := Int.eq_ofNat_of_zero_le q1
      obtain ⟨t, rfl⟩ := Int.eq_ofNat_of_zero_le q3
      have hgb := cB_get (s := 1) (show f < b.length by omega)
      have hsn : nextOf (ss.take (i + 1)) b m = nextOf (ss.take i) b m ++ (if leads b m (↑f, ↑t, set) then [(t : Int)] else []) := by rw [htk, nextOf_snoc]
      have hld : leads b m (↑f, ↑t, set) = (b.getD f false && (decide (0 ≤ m) && decide (m < 5) && hasMode set m)) := rfl
      have hset := cB_set (marks N (nextOf (ss.take i) b m)) t true (by omega)
      by_cases hm0 : 0 ≤ m
      · by_cases hm5 : m < 5
        · rw [decide_eq_true hm0, decide_eq_true hm5] at hld
          cases hbf : b.getD f false with
          | false =>
            rw [hbf] at hgb hld
            rw [hld] at hsn
            simp only [Bool.false_and, Bool.false_eq_true, if_false, List.append_nil] at hsn
            simp (disch := omega) only [go_sem, ↓IntWalk.iteOmega, IntWalk.toNatUp, Nat.reduceEqDiff, Nat.reduceAdd, Nat.reduceMul, Nat.reduceSub, Nat.reduceLT, Nat.reduceLeDiff, Int.reduceToNat, Int.reduceLT, Int.reduceLE, Int.reduceEq, Int.reduceAdd, Int.reduceSub, Int.reduceMul, Int.toNat_natCast, reduceCtorEq, decide_true, decide_false, IntWalk.i64_in, IntWalk.u64_in, IntWalk.u8_in, h1, h2, h3, h7, h8, ho3, ho12, hat, hgb]
            exact ⟨_, by omega, i + 1, by omega, rfl, rfl, by rw [hsn]⟩
          | true =>
            rw [hbf] at hgb hld
            rw [hld] at hsn
            cases hm : hasMode set m with
            | true =>
              rw [hm] at hsn
              simp only [hasMode, decide_eq_true_eq] at hm
              simp only [Bool.and_self, if_true] at hsn
              simp (disch := omega) only [go_sem, ↓IntWalk.iteOmega, IntWalk.toNatUp, Nat.reduceEqDiff, Nat.reduceAdd, Nat.reduceMul, Nat.reduceSub, Nat.reduceLT, Nat.reduceLeDiff, Int.reduceToNat, Int.reduceLT, Int.reduceLE, Int.reduceEq, Int.reduceAdd, Int.reduceSub, Int.reduceMul, Int.toNat_natCast, reduceCtorEq, decide_true, decide_false, IntWalk.i64_in, IntWalk.u64_in, IntWalk.u8_in, h1, h2, h3, h7, h8, ho3, ho12, hat, hgb, hm, hml, hset]
              exact ⟨_, by omega, i + 1, by omega, rfl, rfl, by rw [hsn, marks_snoc]; rfl⟩
            | false =>
              rw [hm] at hsn
              simp only [hasMode, decide_eq_false_iff_not] at hm
              simp only [Bool.and_self, Bool.and_false, Bool.false_eq_true, if_false, List.append_nil] at hsn
              simp (disch := omega) only [go_sem, ↓IntWalk.iteOmega, IntWalk.toNatUp, Nat.reduceEqDiff, Nat.reduceAdd, Nat.reduceMul, Nat.reduceSub, Nat.reduceLT, Nat.reduceLeDiff, Int.reduceToNat, Int.reduceLT, Int.reduceLE, Int.reduceEq, Int.reduceAdd, Int.reduceSub, Int.reduceMul, Int.toNat_natCast, reduceCtorEq, decide_true, decide_false, IntWalk.i64_in, IntWalk.u64_in, IntWalk.u8_in, h1, h2, h3, h7, h8, ho3, ho12, hat, hgb, hm]
              exact ⟨_, by omega, i + 1, by omega, rfl, rfl, by rw [hsn]⟩
        · rw [hld, decide_eq_false hm5] at hsn
          simp only [Bool.and_false, Bool.false_and, Bool.false_eq_true, if_false, List.append_nil] at hsn
          simp (disch := omega) only [go_sem, ↓IntWalk.iteOmega, IntWalk.toNatUp, Nat.reduceEqDiff, Nat.reduceAdd, Nat.reduceMul, Nat.reduceSub, Nat.reduceLT, Nat.reduceLeDiff, Int.reduceToNat, Int.reduceLT, Int.reduceLE, Int.reduceEq, Int.reduceAdd, Int.reduceSub, Int.reduceMul, Int.toNat_natCast, reduceCtorEq, decide_true, decide_false, IntWalk.i64_in, IntWalk.u64_in, IntWalk.u8_in, h1, h2, h3, h7, h8, ho3, ho12, hat]
          exact ⟨_, by omega, i + 1, by omega, rfl, rfl, by rw [hsn]⟩
      · rw [hld, decide_eq_false hm0] at hsn
        simp only [Bool.and_false, Bool.false_and, Bool.false_eq_true, if_false, List.append_nil] at hsn
        simp (disch := omega) only [go_sem, ↓IntWalk.iteOmega, IntWalk.toNatUp, Nat.reduceEqDiff, Nat.reduceAdd, Nat.reduceMul, Nat.reduceSub, Nat.reduceLT, Nat.reduceLeDiff, Int.reduceToNat, Int.reduceLT, Int.reduceLE, Int.reduceEq, Int.reduceAdd, Int.reduceSub, Int.reduceMul, Int.toNat_natCast, reduceCtorEq, decide_true, decide_false, IntWalk.i64_in, IntWalk.u64_in, IntWalk.u8_in, h1, h2, h3, h7, h8, ho3, ho12, hat]
        exact ⟨_, by omega, i + 1, by omega, rfl, rfl, by rw [hsn]⟩
    · have hie : i = ss.length := by omega
      rw [hie, List.take_length] at ho12 hml
      have hin : ∀ x ∈ nextOf ss b m, 0 ≤ x ∧ x < (N : Int) := fun x hx => by
        obtain ⟨p, hp, rfl⟩ := List.mem_map.1 hx
        exact (hw.steps p (List.mem_filter.1 hp).1).2
      have h46' := h46 _ hml
      rw [close_marks hin] at h46'
      have hall : (cB (marks N (nextOf ss b m))).take N = cB (marks N (nextOf ss b m)) := take_len (by rw [cB_length]; exact hml)
      simp (disch := omega) only [go_sem, ↓IntWalk.iteOmega, IntWalk.toNatUp, Nat.reduceEqDiff, Nat.reduceAdd, Nat.reduceMul, Nat.reduceSub, Nat.reduceLT, Nat.reduceLeDiff, Int.reduceToNat, Int.reduceLT, Int.reduceLE, Int.reduceEq, Int.reduceAdd, Int.reduceSub, Int.reduceMul, Int.toNat_natCast, reduceCtorEq, decide_true, decide_false, IntWalk.i64_in, IntWalk.u64_in, IntWalk.u8_in, h1, h2, h3, h7, h8, ho3, ho12, h46', hall, hml]
      rfl
end Go.Proofs.YthhfjjnhkifbfaaDoor.A
/- Words of numbers. -/
namespace Go.Proofs.YthhfjjnhkifbfaaDoor.A
open Go
set_option maxRecDepth 20000
/-! ### words -/
def wordOf (ns : List Int) (most few : Int) : List Int := (ns.take most.toNat).map fun x => x % (1 + few % 5)
theorem lookWord (X) : lookedAt (EX md0 X) (fun _ => none) 3 Tryd.f15 = true := by kernel_rfl
theorem word_ok (ns : List Int) (most few : Int) (hm : 0 ≤ most ∧ most ≤ 1000) : Ok Tryd.prog 15 [slI ns, .int .i64 most, .int .i64 few] (slI (wordOf ns most few)) := by
  obtain ⟨most, rfl⟩ := Int.eq_ofNat_of_zero_le hm.1
  refine ok_of_WP (E := EX md0 (tabLook [(30, tRel RW)])) (cr := noR) (tab_cons (tab_nil _) (tRel_ok within1_ok)) (noR_ok _) mixed (k := most + 1) Tryd.func15 (lookWord _) rfl ?_
  have h37 : ∀ a n : Int, 0 < n → n ≤ 1000000 → tabLook [(30, tRel RW)] 30 [.int .i64 a, .int .i64 n] = some (.int .i64 (a % n)) := fun a n h1 h2 => rw_eq h1 h2
  have hf0 := Int.emod_nonneg few (show (5 : Int) ≠ 0 by decide)
  have hf5 := Int.emod_lt_of_pos few (show (0 : Int) < 5 by decide)
  simp only [Tryd.f15, Option.getD_some]
  simp (disch := omega) only [go_sem, ↓IntWalk.iteOmega, IntWalk.toNatUp, Nat.reduceEqDiff, Nat.reduceAdd, Nat.reduceMul, Nat.reduceSub, Nat.reduceLT, Nat.reduceLeDiff, Int.reduceToNat, Int.reduceLT, Int.reduceLE, Int.reduceEq, Int.reduceAdd, Int.reduceSub, Int.reduceMul, Int.toNat_natCast, reduceCtorEq, decide_true, decide_false, IntWalk.i64_in, IntWalk.u64_in, IntWalk.u8_in]
  refine WP_loop (fun m a o nx => ∃ i, i ≤ ns.length ∧ i ≤ most ∧ m = most - i ∧ a 0 = slI ns ∧ a 1 = .int .i64 most ∧ a 2 = .int .i64 few ∧ a 8 = .int .i64 i ∧ HS 3 1 30 o nx (a 7) i (cI ((ns.take i).map fun x => x % (1 + few % 5)))) most ?_ ?_ ?_
  · omega
  · refine ⟨0, by omega, by omega, by omega, ?_⟩
    simp (disch := omega) only [go_sem, ↓IntWalk.iteOmega, IntWalk.toNatUp, Nat.reduceEqDiff, Nat.reduceAdd, Nat.reduceMul, Nat.reduceSub, Nat.reduceLT, Nat.reduceLeDiff, Int.reduceToNat, Int.reduceLT, Int.reduceLE, Int.reduceEq, Int.reduceAdd, Int.reduceSub, Int.reduceMul, Int.toNat_natCast, reduceCtorEq, decide_true, decide_false, IntWalk.i64_in, IntWalk.u64_in, IntWalk.u8_in, List.take_zero]
    exact HS.nil
  · rintro m a o nx ⟨i, hi, him, rfl, h0, h1, h2, h8, hHS⟩
    by_cases hlt : i < ns.length
    · by_cases hlm : i < most
      · have hg := cI_get (s := 1) hlt
        have htk := take_succ_getD hlt 0
        generalize ns.getD i 0 = x at hg htk
        generalize hv : a 7 = v at hHS
        rcases hHS with ⟨rfl, e2, e3⟩ | ⟨i1, g1, rfl, hi1, hrow, hlen⟩
        · simp (disch := omega) only [go_sem, ↓IntWalk.iteOmega, IntWalk.toNatUp, Nat.reduceEqDiff, Nat.reduceAdd, Nat.reduceMul, Nat.reduceSub, Nat.reduceLT, Nat.reduceLeDiff, Int.reduceToNat, Int.reduceLT, Int.reduceLE, Int.reduceEq, Int.reduceAdd, Int.reduceSub, Int.reduceMul, Int.toNat_natCast, reduceCtorEq, decide_true, decide_false, IntWalk.i64_in, IntWalk.u64_in, IntWalk.u8_in, h0, h1, h2, h8, hv, hg, h37]
          have e4 : (ns.take i).map (fun x => x % (1 + few % 5)) = [] := cI_inj e3
          refine ⟨_, ?_, i + 1, by omega, by omega, rfl, rfl, .inr ⟨nx + 1, (nx + 1, 30), ?_, by omega, ?_, ?_⟩⟩
          · omega
          · rw [e2]
          · rw [htk, List.map_append, e4]; simp [upd_app, cI]
          · rw [htk, List.map_append, e4, e2]; rfl
        · have hall : (cI ((ns.take i).map fun x => x % (1 + few % 5))).take i = cI ((ns.take i).map fun x => x % (1 + few % 5)) := take_len (by rw [hlen, Nat.mul_one])
          rw [Nat.mul_one] at hlen
          simp (disch := omega) only [go_sem, ↓IntWalk.iteOmega, IntWalk.toNatUp, Nat.reduceEqDiff, Nat.reduceAdd, Nat.reduceMul, Nat.reduceSub, Nat.reduceLT, Nat.reduceLeDiff, Int.reduceToNat, Int.reduceLT, Int.reduceLE, Int.reduceEq, Int.reduceAdd, Int.reduceSub, Int.reduceMul, Int.toNat_natCast, reduceCtorEq, decide_true, decide_false, IntWalk.i64_in, IntWalk.u64_in, IntWalk.u8_in, h0, h1, h2, h8, hv, hg, hrow, h37, hlen, hall]
          refine ⟨_, ?_, i + 1, by omega, by omega, rfl, rfl, .inr ⟨i1, (nx + 1, 30), rfl, by omega, ?_, ?_⟩⟩
          · omega
          · rw [htk, List.map_append, cI_app]; simp [upd_app, cI]
          · rw [htk, List.map_append, cI_app, List.length_append, hlen]; simp [cI]
      · have hie : i = most := by omega
        have hvw := hHS.view 1011
        rw [view_cI] at hvw
        simp (disch := omega) only [go_sem, ↓IntWalk.iteOmega, IntWalk.toNatUp, Nat.reduceEqDiff, Nat.reduceAdd, Nat.reduceMul, Nat.reduceSub, Nat.reduceLT, Nat.reduceLeDiff, Int.reduceToNat, Int.reduceLT, Int.reduceLE, Int.reduceEq, Int.reduceAdd, Int.reduceSub, Int.reduceMul, Int.toNat_natCast, reduceCtorEq, decide_true, decide_false, IntWalk.i64_in, IntWalk.u64_in, IntWalk.u8_in, h0, h1, h2, h8, hvw]
        have e : ((ns.take i).map fun x => x % (1 + few % 5)) = wordOf ns most few := by rw [hie]; rfl
        rw [e]
        have : (wordOf ns most few).length = i := by rw [wordOf, List.length_map, List.length_take, Int.toNat_natCast]; omega
        rw [slI, this]
    · have hie : i = ns.length := by omega
      have hvw := hHS.view 1011
      rw [view_cI] at hvw
      simp (disch := omega) only [go_sem, ↓IntWalk.iteOmega, IntWalk.toNatUp, Nat.reduceEqDiff, Nat.reduceAdd, Nat.reduceMul, Nat.reduceSub, Nat.reduceLT, Nat.reduceLeDiff, Int.reduceToNat, Int.reduceLT, Int.reduceLE, Int.reduceEq, Int.reduceAdd, Int.reduceSub, Int.reduceMul, Int.toNat_natCast, reduceCtorEq, decide_true, decide_false, IntWalk.i64_in, IntWalk.u64_in, IntWalk.u8_in, h0, h1, h2, h8, hvw]
      have e : ((ns.take i).map fun x => x % (1 + few % 5)) = wordOf ns most few := by rw [wordOf, Int.toNat_natCast, List.take_of_length_le (by omega), List.take_of_length_le (by omega)]
      rw [e]
      have : (wordOf ns most few).length = i := by rw [wordOf, List.length_map, List.length_take, Int.toNat_natCast]; omega
      rw [slI, this]

def RWord (args : List AV) (r : AV) : Prop := ∃ (ns : List Int) (most few : Int), (0 ≤ most ∧ most ≤ 1000) ∧ args = [slI ns, .int .i64 most, .int .i64 few] ∧ r = slI (wordOf ns most few)
theorem RWord_fn : Fun1 RWord := by
  rintro args r r' ⟨a, b, c, _, rfl, rfl⟩ ⟨a', b', c', _, h, rfl⟩
  simp only [List.cons.injEq, AV.int.injEq, AV.sl.injEq, true_and, and_true] at h
  obtain ⟨⟨_, h1⟩, h2, h3⟩ := h
  rw [cI_inj h1, h2, h3]
theorem RWord_ok (args r) (h : RWord args r) : Ok Tryd.prog 15 args r := by obtain ⟨a, b, c, h, rfl, rfl⟩ := h; exact word_ok a b c h
theorem wordOf_le (ns : List Int) (most few : Int) : (wordOf ns most few).length ≤ most.toNat := by rw [wordOf, List.length_map, List.length_take]; omega
end Go.Proofs.YthhfjjnhkifbfaaDoor.A
/- The document's Run; words, rows held against each other: contracts. -/
namespace Go.Proofs.YthhfjjnhkifbfaaDoor.A
open Go
set_option maxRecDepth 20000
/-! ### the document's Run -/
def R43 (args : List AV) (r : AV) : Prop := ∃ (N : Nat) (S F : Int) (ss : List (Int × Int × Int)) (fs : List (Int × Int)), Wf N S F ss fs ∧ args = [nfaV N S F ss fs] ∧ r = slB (closeB N (rowsOf N fs) [S])
theorem nfaV_inj {N S F N' S' F' : Int} {ss ss' : List (Int × Int × Int)} {fs fs' : List (Int × Int)} (h : nfaV N S F ss fs = nfaV N' S' F' ss' fs') : N = N' ∧ S = S' ∧ F = F' ∧ ss = ss' ∧ fs = fs' := by
  simp only [nfaV, List.cons.injEq, AV.agg.injEq, AV.int.injEq, AV.sl.injEq, true_and, and_true] at h
  obtain ⟨h1, h2, h3, ⟨_, h4⟩, _, h5⟩ := h
  exact ⟨h1, h2, h3, cS_inj h4, cP_inj h5⟩
theorem R43_fn : Fun1 R43 := by
  rintro args r r' ⟨N, S, F, ss, fs, _, rfl, rfl⟩ ⟨N', S', F', ss', fs', _, h, rfl⟩
  simp only [List.cons.injEq, and_true] at h
  obtain ⟨h1, h2, h3, h4, h5⟩ := nfaV_inj h
  have h1 : N = N' := by omega
  rw [h1, h2, h5]
theorem R43_ok (args r) (h : R43 args r) : Ok Tryd.prog 36 args r := by
  obtain ⟨N, S, F, ss, fs, h1, rfl, rfl⟩ := h
  exact begin_ok N S F ss fs h1
def R44 (args : List AV) (r : AV) : Prop := ∃ (N : Nat) (S F : Int) (ss : List (Int × Int × Int)) (fs : List (Int × Int)) (b : List Bool) (m : Int), Wf N S F ss fs ∧ b.length = N ∧ args = [nfaV N S F ss fs, slB b, .int .i64 m] ∧ r = slB (stepB N (rowsOf N fs) ss b m)
theorem R44_fn : Fun1 R44 := by
  rintro args r r' ⟨N, S, F, ss, fs, b, m, _, _, rfl, rfl⟩ ⟨N', S', F', ss', fs', b', m', _, _, h, rfl⟩
  simp only [List.cons.injEq, and_true, AV.int.injEq, true_and] at h
  obtain ⟨h1, h2, h3, h4, h5⟩ := nfaV_inj h.1
  have h1 : N = N' := by omega
  rw [h1, h4, h5, slB_inj h.2.1, h.2.2]
theorem R44_ok (args r) (h : R44 args r) : Ok Tryd.prog 37 args r := by
  obtain ⟨N, S, F, ss, fs, b, m, h1, h2, rfl, rfl⟩ := h
  exact step_ok N S F ss fs h1 b h2 m
noncomputable def X26 : FuncId → List AV → Option AV := tabLook [(36, tRel R43), (37, tRel R44)]
theorem X26_ok : CPSound Tryd.prog X26 := tab_cons (tab_cons (tab_nil _) (tRel_ok R44_ok)) (tRel_ok R43_ok)
theorem X26_43 {N : Nat} {S F : Int} {ss fs} (hw : Wf N S F ss fs) : X26 36 [nfaV N S F ss fs] = some (slB (closeB N (rowsOf N fs) [S])) := by
  show tRel R43 _ = _
  exact tRel_eq R43_fn ⟨N, S, F, ss, fs, hw, rfl, rfl⟩
theorem X26_44 {N : Nat} {S F : Int} {ss fs} (hw : Wf N S F ss fs) (b : List Bool) (hb : b.length = N) (m : Int) : X26 37 [nfaV N S F ss fs, slB b, .int .i64 m] = some (slB (stepB N (rowsOf N fs) ss b m)) := by
  show tRel R44 _ = _
  exact tRel_eq R44_fn ⟨N, S, F, ss, fs, b, m, hw, hb, rfl, rfl⟩
theorem look26 (X) : lookedAt (EX md0 X) (fun _ => none) 2 Tryd.f28 = true := by kernel_rfl
theorem refRun_ok (N : Nat) (S F : Int) (ss) (fs : List (Int × Int)) (hw : Wf N S F ss fs) (w : List Int) (hlw : w.length ≤ 1000000) : Ok Tryd.prog 28 [nfaV N S F ss fs, slI w] (.bool (runB N S F ss fs w)) := by
  refine ok_of_WP (E := EX md0 X26) (cr := noR) X26_ok (noR_ok _) mixed (k := w.length + 1) Tryd.func28 (look26 _) rfl ?_
  have h43 := X26_43 hw
  have hF := hw.f
  obtain ⟨F, rfl⟩ := Int.eq_ofNat_of_zero_le hF.1
  simp only [Tryd.f28, Option.getD_some]
  simp (disch := omega) only [go_sem, ↓IntWalk.iteOmega, IntWalk.toNatUp, Nat.reduceEqDiff, Nat.reduceAdd, Nat.reduceMul, Nat.reduceSub, Nat.reduceLT, Nat.reduceLeDiff, Int.reduceToNat, Int.reduceLT, Int.reduceLE, Int.reduceEq, Int.reduceAdd, Int.reduceSub, Int.reduceMul, Int.toNat_natCast, reduceCtorEq, decide_true, decide_false, IntWalk.i64_in, IntWalk.u64_in, IntWalk.u8_in, h43]
  refine WP_loop (fun m a o nx => ∃ i, i ≤ w.length ∧ m = w.length - i ∧ 2 ≤ nx ∧ a 1 = slI w ∧ a 2 = .ptr (0, 2) (0, 2) 0 ∧ a 5 = slB (setB N S ss fs (w.take i)) ∧ a 6 = .int .i64 i ∧
    o (0, 2) = some (.row ⟨41, 1, (0, 2), false, true, [.int .i64 N, .int .i64 S, .int .i64 F, .sl ss.length (cS ss), .sl fs.length (cP fs)]⟩)) w.length ?_ ?_ ?_
  · omega
  · refine ⟨0, by omega, by omega, by omega, ?_⟩
    simp (disch := omega) only [go_sem, ↓IntWalk.iteOmega, IntWalk.toNatUp, Nat.reduceEqDiff, Nat.reduceAdd, Nat.reduceMul, Nat.reduceSub, Nat.reduceLT, Nat.reduceLeDiff, Int.reduceToNat, Int.reduceLT, Int.reduceLE, Int.reduceEq, Int.reduceAdd, Int.reduceSub, Int.reduceMul, Int.toNat_natCast, reduceCtorEq, decide_true, decide_false, IntWalk.i64_in, IntWalk.u64_in, IntWalk.u8_in, List.take_zero]
    rfl
  · rintro m a o nx ⟨i, hi, rfl, hnx, h1, h2, h5, h6, ho2⟩
    by_cases hlt : i < w.length
    · have hg := cI_get (s := 1) hlt
      have htk := take_succ_getD hlt 0
      generalize w.getD i 0 = x at hg htk
      have h44 := X26_44 hw (setB N S ss fs (w.take i)) (setB_length _ _ _ _ _) x
      simp (disch := omega) only [go_sem, ↓IntWalk.iteOmega, IntWalk.toNatUp, Nat.reduceEqDiff, Nat.reduceAdd, Nat.reduceMul, Nat.reduceSub, Nat.reduceLT, Nat.reduceLeDiff, Int.reduceToNat, Int.reduceLT, Int.reduceLE, Int.reduceEq, Int.reduceAdd, Int.reduceSub, Int.reduceMul, Int.toNat_natCast, reduceCtorEq, decide_true, decide_false, IntWalk.i64_in, IntWalk.u64_in, IntWalk.u8_in, h1, h2, h5, h6, ho2, hg, h44]
      exact ⟨_, by omega, i + 1, by omega, rfl, by rw [htk, setB_snoc], rfl⟩
    · have hie : i = w.length := by omega
      rw [hie, List.take_length] at h5
      have hbl := setB_length N S ss fs w
      have hgb := cB_get (s := 1) (show F < (setB N S ss fs w).length by omega)
      simp (disch := omega) only [go_sem, ↓IntWalk.iteOmega, IntWalk.toNatUp, Nat.reduceEqDiff, Nat.reduceAdd, Nat.reduceMul, Nat.reduceSub, Nat.reduceLT, Nat.reduceLeDiff, Int.reduceToNat, Int.reduceLT, Int.reduceLE, Int.reduceEq, Int.reduceAdd, Int.reduceSub, Int.reduceMul, Int.toNat_natCast, reduceCtorEq, decide_true, decide_false, IntWalk.i64_in, IntWalk.u64_in, IntWalk.u8_in, h1, h2, h5, h6, ho2, hgb, hbl]
      rfl

end Go.Proofs.YthhfjjnhkifbfaaDoor.A
/- nfa.Build: the machine of any tree. -/
namespace Go.Proofs.YthhfjjnhkifbfaaDoor.A
open Go
set_option maxRecDepth 20000
abbrev b0 : BS := ⟨0, [], []⟩
/-- What is built. -/
def builtV (r : (Int × Int) × BS) : AV := if r.2.n > 1000 then .tup [nfaV 0 0 0 [] [], .int .i64 4] else .tup [nfaV r.2.n r.1.1 r.1.2 r.2.s r.2.f, .int .i64 0]
def nzBuild (id : Nat) : Option (List (Nat × Nat)) := if id = 5 then some [(4, 15), (6, 15), (8, 15), (15, 20), (15, 21), (4, 22), (6, 22), (8, 22), (13, 22), (14, 22), (15, 22), (4, 24), (6, 24), (8, 24), (13, 24), (14, 24), (15, 24), (20, 24), (21, 24), (22, 24)] else none
theorem rep_len (z : List AV) (n : Nat) : (rep z n).length = n * z.length := by
  induction n with
  | zero => simp [rep]
  | succ n ih => rw [rep, List.length_append, ih, Nat.succ_mul]; omega
end Go.Proofs.YthhfjjnhkifbfaaDoor.A
/- The document's builder: its small methods. -/
namespace Go.Proofs.YthhfjjnhkifbfaaDoor.A
open Go
set_option maxRecDepth 20000
structure QRow (o : Ob) (nx : Nat) (t : Nat) (b : BS) (m : Bool) (vS vF : AV) : Prop where
  lt : t < nx
  row : o (t, 8) = some (.row ⟨89, 1, (t, 8), false, true, [.int .i64 b.n, .int .i64 0, .int .i64 0, vS, vF, .bool m]⟩)
  s : HS 69 3 29 o nx vS b.s.length (cS b.s)
  f : HS 67 2 16 o nx vF b.f.length (cP b.f)
def QAt (o : Ob) (nx : Nat) (t : Nat) (b : BS) (m : Bool) : Prop := ∃ vS vF, QRow o nx t b m vS vF
def QKeep (t : Nat) (o : Ob) (nx : Nat) (o' : Ob) : Prop := ∀ i j, i < nx → (j = 8 → i ≠ t) → j ≠ 29 → j ≠ 16 → o' (i, j) = o (i, j)
theorem QKeep.refl (t o nx) : QKeep t o nx o := fun _ _ _ _ _ _ => rfl
theorem QKeep.trans {t o nx o' nx' o''} (h1 : QKeep t o nx o') (h2 : QKeep t o' nx' o'') (h : nx ≤ nx') : QKeep t o nx o'' := fun i j a b c d => by rw [h2 i j (by omega) b c d, h1 i j a b c d]
theorem QKeep.new {t o nx o'} (ho : ∀ i j, i < nx → o' (i, j) = o (i, j)) : QKeep t o nx o' := fun i j hi _ _ _ => ho i j hi
theorem QKeep.row {t o nx o'} (h : QKeep t o nx o') {i j : Nat} {x : Option AObj} (hx : o (i, j) = x) (hi : i < nx) (h1 : j = 8 → i ≠ t) (h2 : j ≠ 29) (h3 : j ≠ 16) : o' (i, j) = x := (h i j hi h1 h2 h3).trans hx
theorem qkeep_upd {t : Nat} {o : Ob} {nx : Nat} {x : AObj} : QKeep t o nx (upd o (t, 8) x) := fun i j hi h1 h2 h3 => upd_ne _ _ _ _ (fun e => by injection e with e1 e2; exact h1 e2 e1)
theorem QAt.new {o nx t b m} (h : QAt o nx t b m) {o' : Ob} {nx' : Nat} (ho : ∀ i j, i < nx → o' (i, j) = o (i, j)) (hn : nx ≤ nx') : QAt o' nx' t b m := by
  obtain ⟨vS, vF, h⟩ := h
  exact ⟨vS, vF, ⟨by have := h.lt; omega, by rw [ho _ _ h.lt]; exact h.row, h.s.keep (fun i hi => ho i _ hi) hn, h.f.keep (fun i hi => ho i _ hi) hn⟩⟩
theorem QAt.slot {o nx t b m} (h : QAt o nx t b m) {o' : Ob} {nx' : Nat} (ho : ∀ i j, (j = 8 ∧ i = t ∨ j = 29 ∨ j = 16) → o' (i, j) = o (i, j)) (hn : nx ≤ nx') : QAt o' nx' t b m := by
  obtain ⟨vS, vF, h⟩ := h
  exact ⟨vS, vF, ⟨by have := h.lt; omega, by rw [ho _ _ (.inl ⟨rfl, rfl⟩)]; exact h.row, h.s.keep (fun i hi => ho i _ (.inr (.inl rfl))) hn, h.f.keep (fun i hi => ho i _ (.inr (.inr rfl))) hn⟩⟩
theorem QAt.eq {o nx t b b' m} (h : QAt o nx t b m) (e : b = b') : QAt o nx t b' m := e ▸ h
theorem QAt.same {o nx t b m} (h : QAt o nx t b m) {b' m'} (h' : QAt o nx t b' m') : b = b' ∧ m = m' := by
  obtain ⟨vS, vF, h⟩ := h
  obtain ⟨vS', vF', h'⟩ := h'
  have := h.row.symm.trans h'.row
  simp only [Option.some.injEq, AObj.row.injEq, Row.mk.injEq, List.cons.injEq, AV.int.injEq, AV.bool.injEq, and_true, true_and] at this
  obtain ⟨e1, rfl, rfl, e4⟩ := this
  have e2 := cS_inj (h.s.same h'.s)
  have e3 := cP_inj (h.f.same h'.f)
  have e1 : b.n = b'.n := by omega
  refine ⟨?_, e4⟩
  cases b; cases b'
  simp only at e1 e2 e3
  rw [e1, e2, e3]
def QTo (t : Nat) (b' : BS) (m' : Bool) (H H' : AH) : Prop := H.nx ≤ H'.nx ∧ QAt H'.o H'.nx t b' m' ∧ QKeep t H.o H.nx H'.o
/-! ### one more state -/
def qState (b : BS) (m : Bool) : Int × BS × Bool := if b.n ≥ 1000 then (0, b, true) else (b.n, b.state, m)
def QState (args : List AV) (H : AH) (v : AV) (H' : AH) : Prop := OkR Tryd.prog 52 args H v H' ∧ ∀ t b m, args = [bp t] → QAt H.o H.nx t b m → v = .int .i64 (qState b m).1 ∧ QTo t (qState b m).2.1 (qState b m).2.2 H H'
theorem lookQState (X) : lookedAt (EX md0 X) (fun _ => none) 1 Tryd.f52 = true := by kernel_rfl
theorem qstate_ok {t : Nat} {o : Ob} {nx : Nat} {b : BS} {m : Bool} (h : QAt o nx t b m) (hn : b.n ≤ 1000) : ∃ v H', QState [bp t] ⟨o, nx⟩ v H' := by
  have hh := h
  obtain ⟨vS, vF, h⟩ := h
  obtain ⟨v, H', h1, h2⟩ := okR_of_WP (E := EX md0 (fun _ _ => none)) (cr := noR) (cp_none _) (noR_ok _) mixed (k := 0) (args := [bp t]) (o := o) (nx := nx) (Post := fun v o' nx' => v = .int .i64 (qState b m).1 ∧ QTo t (qState b m).2.1 (qState b m).2.2 ⟨o, nx⟩ ⟨o', nx'⟩) Tryd.func52 (lookQState _) rfl (by
    have h1 := h.lt
    have h2 := h.row
    have h3 := h.s.ok
    have h4 := h.f.ok
    simp only [Tryd.f52, Option.getD_some]
    by_cases hb : (1000 : Int) ≤ b.n
    · have e : qState b m = (0, b, true) := if_pos (by omega)
      rw [e]
      simp (disch := omega) only [go_sem, ↓IntWalk.iteOmega, IntWalk.toNatUp, Nat.reduceEqDiff, Nat.reduceAdd, Nat.reduceMul, Nat.reduceSub, Nat.reduceLT, Nat.reduceLeDiff, Int.reduceToNat, Int.reduceLT, Int.reduceLE, Int.reduceEq, Int.reduceAdd, Int.reduceSub, Int.reduceMul, Int.toNat_natCast, reduceCtorEq, decide_true, decide_false, IntWalk.i64_in, IntWalk.u64_in, IntWalk.u8_in, h2, h3, h4, hb]
      exact ⟨by show nx ≤ nx + 1 + 1 + 1 + 1; omega, ⟨vS, vF, ⟨by show t < nx + 1 + 1 + 1 + 1; omega, upd_same _ _ _, h.s.keep (fun _ _ => by simp [upd_app]) (by show nx ≤ nx + 1 + 1 + 1 + 1; omega), h.f.keep (fun _ _ => by simp [upd_app]) (by show nx ≤ nx + 1 + 1 + 1 + 1; omega)⟩⟩, qkeep_upd⟩
    · have e : qState b m = ((b.n : Int), b.state, m) := if_neg (by omega)
      rw [e]
      simp (disch := omega) only [go_sem, ↓IntWalk.iteOmega, IntWalk.toNatUp, Nat.reduceEqDiff, Nat.reduceAdd, Nat.reduceMul, Nat.reduceSub, Nat.reduceLT, Nat.reduceLeDiff, Int.reduceToNat, Int.reduceLT, Int.reduceLE, Int.reduceEq, Int.reduceAdd, Int.reduceSub, Int.reduceMul, Int.toNat_natCast, reduceCtorEq, decide_true, decide_false, IntWalk.i64_in, IntWalk.u64_in, IntWalk.u8_in, h2, h3, h4, hb]
      refine ⟨by rw [Int.add_sub_cancel], by show nx ≤ nx + 1 + 1 + 1 + 1; omega, ⟨vS, vF, ⟨by show t < nx + 1 + 1 + 1 + 1; omega, ?_, h.s.keep (fun _ _ => by simp [upd_app]) (by show nx ≤ nx + 1 + 1 + 1 + 1; omega), h.f.keep (fun _ _ => by simp [upd_app]) (by show nx ≤ nx + 1 + 1 + 1 + 1; omega)⟩⟩, qkeep_upd⟩
      exact upd_same _ _ _)
  refine ⟨v, H', h1, fun t' b' m' e hb => ?_⟩
  simp only [List.cons.injEq, AV.ptr.injEq, Prod.mk.injEq, and_true] at e
  obtain rfl := e.1
  obtain ⟨rfl, rfl⟩ := hh.same hb
  exact h2
theorem qstate_call {t : Nat} {o : Ob} {nx : Nat} {b : BS} {m : Bool} {K : AV × AH → Prop} (h : QAt o nx t b m) (hn : b.n ≤ 1000) (hK : ∀ o' nx', nx ≤ nx' → QAt o' nx' t (qState b m).2.1 (qState b m).2.2 → QKeep t o nx o' → K (.int .i64 (qState b m).1, ⟨o', nx'⟩)) :
    wO (Option.map (fun p => freezeR false p.1 p.2) (cRel QState [bp t] ⟨o, nx⟩)) K := by
  refine cRel_call (qstate_ok h hn) fun v H' hr => ?_
  obtain ⟨rfl, h1, h2, h3⟩ := hr.2 t b m rfl h
  exact hK H'.o H'.nx h1 h2 h3
/-! ### a free one -/
def QFree (args : List AV) (H : AH) (v : AV) (H' : AH) : Prop := OkR Tryd.prog 58 args H v H' ∧ ∀ t b m x y, args = [bp t, .int .i64 x, .int .i64 y] → QAt H.o H.nx t b m → v = .tup [] ∧ QTo t (b.free x y) m H H'
theorem lookQFree (X) : lookedAt (EX md0 X) (fun _ => none) 3 Tryd.f58 = true := by kernel_rfl
theorem qfree_ok {t : Nat} {o : Ob} {nx : Nat} {b : BS} {m : Bool} (h : QAt o nx t b m) (x y : Int) (hn : b.f.length ≤ 100000000) : ∃ v H', QFree [bp t, .int .i64 x, .int .i64 y] ⟨o, nx⟩ v H' := by
  have hh := h
  obtain ⟨vS, vF, h⟩ := h
  obtain ⟨v, H', h1, h2⟩ := okR_of_WP (E := EX md0 (fun _ _ => none)) (cr := noR) (cp_none _) (noR_ok _) mixed (k := 0) (args := [bp t, .int .i64 x, .int .i64 y]) (o := o) (nx := nx) (Post := fun v o' nx' => v = .tup [] ∧ QTo t (b.free x y) m ⟨o, nx⟩ ⟨o', nx'⟩) Tryd.func58 (lookQFree _) rfl (by
    have h0 := h.lt
    have h2 := h.row
    have h3 := h.s.ok
    have h4 := h.f.ok
    have hs := h.s
    simp only [Tryd.f58, Option.getD_some]
    rcases h.f with ⟨rfl, e2, e3⟩ | ⟨i1, g1, rfl, hi1, hrow, hlen⟩
    · simp (disch := omega) only [go_sem, ↓IntWalk.iteOmega, IntWalk.toNatUp, Nat.reduceEqDiff, Nat.reduceAdd, Nat.reduceMul, Nat.reduceSub, Nat.reduceLT, Nat.reduceLeDiff, Int.reduceToNat, Int.reduceLT, Int.reduceLE, Int.reduceEq, Int.reduceAdd, Int.reduceSub, Int.reduceMul, Int.toNat_natCast, reduceCtorEq, decide_true, decide_false, IntWalk.i64_in, IntWalk.u64_in, IntWalk.u8_in, h2, h3, h4]
      refine ⟨rfl, by show nx ≤ nx + 1; omega, ⟨vS, _, ⟨by show t < nx + 1; omega, upd_same _ _ _, hs.keep (fun _ _ => by simp [upd_app]) (by show nx ≤ nx + 1; omega), .inr ⟨nx, (nx, 16), by simp [BS.free, e2], by show _ < nx + 1; omega, ?_, ?_⟩⟩⟩, ?_⟩
      · simp [upd_app, BS.free, cP, List.length_eq_zero_iff.1 e2]
      · simp [BS.free, cP_length]
      · intro i j hi a1 a2 a3
        have : i ≠ nx := by have : i < nx := hi; omega
        simp (disch := omega) [upd_app, this, a3, a2]
        intro hj
        have := a1 hj
        simp [this, hj]
    · simp (disch := omega) only [go_sem, ↓IntWalk.iteOmega, IntWalk.toNatUp, Nat.reduceEqDiff, Nat.reduceAdd, Nat.reduceMul, Nat.reduceSub, Nat.reduceLT, Nat.reduceLeDiff, Int.reduceToNat, Int.reduceLT, Int.reduceLE, Int.reduceEq, Int.reduceAdd, Int.reduceSub, Int.reduceMul, Int.toNat_natCast, reduceCtorEq, decide_true, decide_false, IntWalk.i64_in, IntWalk.u64_in, IntWalk.u8_in, h2, h3, h4, hrow]
      refine ⟨rfl, by show nx ≤ nx + 1; omega, ⟨vS, _, ⟨by show t < nx + 1; omega, upd_same _ _ _, hs.keep (fun _ _ => by simp [upd_app]) (by show nx ≤ nx + 1; omega), .inr ⟨i1, (nx, 16), by simp [BS.free], by show _ < nx + 1; omega, ?_, ?_⟩⟩⟩, ?_⟩
      · simp [upd_app, BS.free, cP]
      · simp [BS.free, cP_length]
      · intro i j hi a1 a2 a3
        have : i ≠ nx := by have : i < nx := hi; omega
        simp (disch := omega) [upd_app, this, a3, a2]
        intro hj
        have := a1 hj
        simp [this, hj])
  refine ⟨v, H', h1, fun t' b' m' x' y' e hb => ?_⟩
  simp only [List.cons.injEq, AV.ptr.injEq, Prod.mk.injEq, AV.int.injEq, and_true, true_and] at e
  obtain ⟨⟨rfl, _⟩, rfl, rfl⟩ := e
  obtain ⟨rfl, rfl⟩ := hh.same hb
  exact h2
theorem qfree_call {t : Nat} {o : Ob} {nx : Nat} {b : BS} {m : Bool} {K : AV × AH → Prop} (h : QAt o nx t b m) (x y : Int) (hn : b.f.length ≤ 100000000) (hK : ∀ o' nx', nx ≤ nx' → QAt o' nx' t (b.free x y) m → QKeep t o nx o' → K (.tup [], ⟨o', nx'⟩)) :
    wO (Option.map (fun p => freezeR false p.1 p.2) (cRel QFree [bp t, .int .i64 x, .int .i64 y] ⟨o, nx⟩)) K := by
  refine cRel_call (qfree_ok h x y hn) fun v H' hr => ?_
  obtain ⟨rfl, h1, h2, h3⟩ := hr.2 t b m x y rfl h
  exact hK H'.o H'.nx h1 h2 h3
end Go.Proofs.YthhfjjnhkifbfaaDoor.A
/- The document's builder: repeat. -/
namespace Go.Proofs.YthhfjjnhkifbfaaDoor.A
open Go
set_option maxRecDepth 20000
/-- Whole numbers in a row of slot D. -/
def IAt (D : Nat) (o : Ob) (nx : Nat) (v : AV) (l : List Int) : Prop := HS 3 1 D o nx v l.length (cI l)
theorem IAt.keep {D o nx v l} (h : IAt D o nx v l) {t o' nx'} (hk : QKeep t o nx o') (h8 : D ≠ 8) (h29 : D ≠ 29) (h16 : D ≠ 16) (hn : nx ≤ nx') : IAt D o' nx' v l := HS.keep h (fun i hi => hk i D hi (fun e => absurd e h8) h29 h16) hn
theorem IAt.slot {D o nx v l} (h : IAt D o nx v l) {o' : Ob} {nx' : Nat} (ho : ∀ i, o' (i, D) = o (i, D)) (hn : nx ≤ nx') : IAt D o' nx' v l := HS.keep h (fun i _ => ho i) hn
theorem IAt.same {D o nx v l l'} (h : IAt D o nx v l) (h' : IAt D o nx v l') : l = l' := cI_inj (HS.same h h')
abbrev fstL (p : List (Int × Int)) : List Int := p.map (·.1)
abbrev sndL (p : List (Int × Int)) : List Int := p.map (·.2)
theorem fst_get {p : List (Int × Int)} {i : Nat} (h : i < p.length) : take1 false 1 ((cI (fstL p)).drop i) = some (.int .i64 (p.getD i (0, 0)).1) := by
  rw [cI_get (by simpa using h)]; simp [List.getD, h]
theorem snd_get {p : List (Int × Int)} {i : Nat} (h : i < p.length) : take1 false 1 ((cI (sndL p)).drop i) = some (.int .i64 (p.getD i (0, 0)).2) := by
  rw [cI_get (by simpa using h)]; simp [List.getD, h]
theorem pairs_eq : ∀ {p q : List (Int × Int)}, fstL p = fstL q → sndL p = sndL q → p = q
  | [], [], _, _ => rfl
  | [], _ :: _, h, _ => by cases h
  | _ :: _, [], h, _ => by cases h
  | (a, b) :: p, (c, d) :: q, h1, h2 => by
    simp only [fstL, sndL, List.map_cons, List.cons.injEq] at h1 h2
    rw [pairs_eq h1.2 h2.2, h1.1, h2.1]
def repL (lo : Int) (s e : Int) (p : List (Int × Int)) : List (Int × Int) := headL s p ++ rLinks lo e 0 p ++ (if lo = 0 then [(s, e)] else [])
def QRep (args : List AV) (H : AH) (v : AV) (H' : AH) : Prop := OkR Tryd.prog 59 args H v H' ∧ ∀ t b kind set lo hi l s e vf vt p, args = [bp t, nodeV (.mk kind set lo hi l), .int .i64 s, .int .i64 e, vf, vt] → IAt 70 H.o H.nx vf (fstL p) → IAt 74 H.o H.nx vt (sndL p) → QAt H.o H.nx t b false → v = .tup [] ∧ QTo t (b.frees (repL lo s e p)) false H H'
theorem lookQRep (X) : lookedAt (EX md0 X) (fun _ => none) 6 Tryd.f59 = true := by kernel_rfl
theorem crQRep_ok : CRSound Tryd.prog (tabLookR [(58, cRel QFree)]) ∧ Up (tabLookR [(58, cRel QFree)]) :=
  tabR_cons (tabR_nil _) fun args H v H' h => (cRel_some h).1
theorem qrep_loop {cr : CallR} (hF : cr 58 = cRel QFree) {kind set lo hi s e : Int} {l : List Nd} {t r : Nat} {o0 : Ob} {nx0 : Nat} {T b : BS} {p : List (Int × Int)} {vf vt : AV} {a : AAct} {o : Ob} {nx : Nat} {Q : WPost} (hlo : 0 ≤ lo ∧ lo ≤ 10) (hlen : p.length ≤ 10) (hr : nx0 ≤ r) (hrn : r < nx) (hnx : nx0 ≤ nx) (hB : QAt o nx t b false) (hT : b.frees (rLinks lo e 0 p) = T) (hbf : b.f.length ≤ 1000000) (hf : IAt 70 o nx vf (fstL p)) (ht : IAt 74 o nx vt (sndL p)) (ho7 : o (r, 7) = some (.row ⟨54, 1, (r, 7), false, true, [.int .i64 kind, .int .i64 set, .int .i64 lo, .int .i64 hi, slN l]⟩)) (h12 : a 12 = .int .i64 0)
    (hmore : a 0 = bp t ∧ a 2 = .int .i64 s ∧ a 3 = .int .i64 e ∧ a 4 = vf ∧ a 5 = vt ∧ a 7 = .ptr (r, 7) (r, 7) 0 ∧ QKeep t o0 nx0 o)
    (hQ : ∀ a o nx, nx0 ≤ nx → r < nx → o (r, 7) = some (.row ⟨54, 1, (r, 7), false, true, [.int .i64 kind, .int .i64 set, .int .i64 lo, .int .i64 hi, slN l]⟩) → QAt o nx t T false → a 0 = bp t → a 2 = .int .i64 s → a 3 = .int .i64 e → a 7 = .ptr (r, 7) (r, 7) 0 → QKeep t o0 nx0 o → Q .normal a o nx) :
    WP (EX md0 (fun _ _ => none)) cr 30 (fun _ => none) (pathC [1, 1, 0, 1, 0] (Tryd.f59.body.getD .skip)) a o nx (blockQ 0 Q) := by
  simp only [Tryd.f59, Option.getD_some, pathC]
  refine WP_loop (fun m a o nx => ∃ (i : Nat) (b : BS), i ≤ p.length ∧ m = p.length - i ∧ nx0 ≤ nx ∧ r < nx ∧ QAt o nx t b false ∧ b.frees (rLinks lo e i (p.drop i)) = T ∧ b.f.length ≤ 1000000 + 2 * i ∧ IAt 70 o nx vf (fstL p) ∧ IAt 74 o nx vt (sndL p) ∧ o (r, 7) = some (.row ⟨54, 1, (r, 7), false, true, [.int .i64 kind, .int .i64 set, .int .i64 lo, .int .i64 hi, slN l]⟩) ∧ a 12 = .int .i64 i ∧ a 0 = bp t ∧ a 2 = .int .i64 s ∧ a 3 = .int .i64 e ∧ a 4 = vf ∧ a 5 = vt ∧ a 7 = .ptr (r, 7) (r, 7) 0 ∧ QKeep t o0 nx0 o) p.length (by omega) ⟨0, b, by omega, by omega, hnx, hrn, hB, hT, by omega, hf, ht, ho7, h12, hmore⟩ ?_
  clear hmore h12 ho7 hB hT hbf hf ht hrn hnx
  rintro m a o nx ⟨i, b, hi, rfl, hnx, hrn, hB, hT, hbf, hf, ht, ho7, h12, h0, h2, h3, h4, h5, h7, hkp⟩
  by_cases hlt : i < p.length
  · have hf' := hf
    have ht' := ht
    rcases hf with ⟨_, e1, _⟩ | ⟨i1, g1, rfl, hi1, hrow1, hlen1⟩
    · simp only [List.length_map] at e1; omega
    rcases ht with ⟨_, e1, _⟩ | ⟨i2, g2, rfl, hi2, hrow2, hlen2⟩
    · simp only [List.length_map] at e1; omega
    simp only [List.length_map] at h4 h5
    have g0 := snd_get hlt
    by_cases hl : i + 1 = p.length
    · have hl' : ((i : Int) = (p.length : Int) - 1) = True := eq_true (by omega)
      obtain ⟨q1, q2⟩ := rLinks_last (lo := lo) (e := e) hl
      rw [q1, frees_cons, frees_nil] at hT
      simp (disch := omega) only [go_sem, ↓IntWalk.iteOmega, IntWalk.toNatUp, Nat.reduceEqDiff, Nat.reduceAdd, Nat.reduceMul, Nat.reduceSub, Nat.reduceLT, Nat.reduceLeDiff, Int.reduceToNat, Int.reduceLT, Int.reduceLE, Int.reduceEq, Int.reduceAdd, Int.reduceSub, Int.reduceMul, Int.toNat_natCast, reduceCtorEq, decide_true, decide_false, IntWalk.i64_in, IntWalk.u64_in, IntWalk.u8_in, h0, h2, h3, h4, h5, h7, h12, hrow1, hrow2, g0, hF, hl']
      refine qfree_call (hB.new (fun _ _ _ => rfl) (by omega)) _ _ (by omega) ?_
      intro o1 nx1 hle1 hB1 hk1
      have k1 : QKeep t o nx o1 := fun i j (hi : i < nx) => hk1 i j (by omega)
      simp (disch := omega) only [go_sem, ↓IntWalk.iteOmega, IntWalk.toNatUp, Nat.reduceEqDiff, Nat.reduceAdd, Nat.reduceMul, Nat.reduceSub, Nat.reduceLT, Nat.reduceLeDiff, Int.reduceToNat, Int.reduceLT, Int.reduceLE, Int.reduceEq, Int.reduceAdd, Int.reduceSub, Int.reduceMul, Int.toNat_natCast, reduceCtorEq, decide_true, decide_false, IntWalk.i64_in, IntWalk.u64_in, IntWalk.u8_in, h0, h2, h3, h4, h5, h7, h12, hF, hl']
      refine ⟨_, ?_, i + 1, _, by omega, rfl, by omega, by omega, hB1.new (fun _ _ _ => rfl) (by omega), ?_, by simp only [BS.free_f, List.length_append, List.length_cons, List.length_nil]; omega, hf'.keep k1 (by decide) (by decide) (by decide) (by omega), ht'.keep k1 (by decide) (by decide) (by decide) (by omega), k1.row ho7 hrn (fun e => absurd e (by decide)) (by decide) (by decide), rfl, by simp, by simp, hkp.trans k1 hnx⟩
      · omega
      · rw [q2, rLinks, frees_nil, hT]
    · have hl' : ¬ (i : Int) = (p.length : Int) - 1 := by omega
      have g1' := fst_get (show i + 1 < p.length by omega)
      have q1 := rLinks_next (lo := lo) (e := e) (show i + 1 < p.length by omega)
      by_cases hlo' : (i : Int) + 1 ≥ lo
      · rw [q1, if_pos hlo', List.singleton_append, frees_cons, frees_cons] at hT
        simp (disch := omega) only [go_sem, ↓IntWalk.iteOmega, IntWalk.toNatUp, Nat.reduceEqDiff, Nat.reduceAdd, Nat.reduceMul, Nat.reduceSub, Nat.reduceLT, Nat.reduceLeDiff, Int.reduceToNat, Int.reduceLT, Int.reduceLE, Int.reduceEq, Int.reduceAdd, Int.reduceSub, Int.reduceMul, Int.toNat_natCast, reduceCtorEq, decide_true, decide_false, IntWalk.i64_in, IntWalk.u64_in, IntWalk.u8_in, h0, h2, h3, h4, h5, h7, h12, ho7, hrow1, hrow2, g0, hF, hl', hlo']
        refine qfree_call (hB.new (fun _ _ _ => rfl) (by omega)) _ _ (by omega) ?_
        intro o1 nx1 hle1 hB1 hk1
        have k1 : QKeep t o nx o1 := fun i j (hi : i < nx) => hk1 i j (by omega)
        have hr1 := k1.row hrow1 hi1 (fun e => absurd e (by decide)) (by decide) (by decide)
        have hr2 := k1.row hrow2 hi2 (fun e => absurd e (by decide)) (by decide) (by decide)
        simp (disch := omega) only [go_sem, ↓IntWalk.iteOmega, IntWalk.toNatUp, Nat.reduceEqDiff, Nat.reduceAdd, Nat.reduceMul, Nat.reduceSub, Nat.reduceLT, Nat.reduceLeDiff, Int.reduceToNat, Int.reduceLT, Int.reduceLE, Int.reduceEq, Int.reduceAdd, Int.reduceSub, Int.reduceMul, Int.toNat_natCast, reduceCtorEq, decide_true, decide_false, IntWalk.i64_in, IntWalk.u64_in, IntWalk.u8_in, h0, h2, h3, h4, h5, h7, h12, hr1, hr2, g0, g1', hF, hl']
        refine qfree_call (hB1.new (fun _ _ _ => rfl) (by omega)) _ _ (by simp only [BS.free_f, List.length_append, List.length_cons, List.length_nil]; omega) ?_
        intro o2 nx2 hle2 hB2 hk2
        have k2 : QKeep t o nx o2 := k1.trans (fun i j (hi : i < nx1) => hk2 i j (by omega)) (by omega)
        simp (disch := omega) only [go_sem, ↓IntWalk.iteOmega, IntWalk.toNatUp, Nat.reduceEqDiff, Nat.reduceAdd, Nat.reduceMul, Nat.reduceSub, Nat.reduceLT, Nat.reduceLeDiff, Int.reduceToNat, Int.reduceLT, Int.reduceLE, Int.reduceEq, Int.reduceAdd, Int.reduceSub, Int.reduceMul, Int.toNat_natCast, reduceCtorEq, decide_true, decide_false, IntWalk.i64_in, IntWalk.u64_in, IntWalk.u8_in, h0, h2, h3, h4, h5, h7, h12, hF, hl']
        refine ⟨_, ?_, i + 1, _, by omega, rfl, by omega, by omega, hB2.new (fun _ _ _ => rfl) (by omega), hT, by simp only [BS.free_f, List.length_append, List.length_cons, List.length_nil]; omega, hf'.keep k2 (by decide) (by decide) (by decide) (by omega), ht'.keep k2 (by decide) (by decide) (by decide) (by omega), k2.row ho7 hrn (fun e => absurd e (by decide)) (by decide) (by decide), rfl, by simp, by simp, hkp.trans k2 hnx⟩
        omega
      · rw [q1, if_neg hlo', List.nil_append, frees_cons] at hT
        simp (disch := omega) only [go_sem, ↓IntWalk.iteOmega, IntWalk.toNatUp, Nat.reduceEqDiff, Nat.reduceAdd, Nat.reduceMul, Nat.reduceSub, Nat.reduceLT, Nat.reduceLeDiff, Int.reduceToNat, Int.reduceLT, Int.reduceLE, Int.reduceEq, Int.reduceAdd, Int.reduceSub, Int.reduceMul, Int.toNat_natCast, reduceCtorEq, decide_true, decide_false, IntWalk.i64_in, IntWalk.u64_in, IntWalk.u8_in, h0, h2, h3, h4, h5, h7, h12, ho7, hrow1, hrow2, g0, g1', hF, hl', hlo']
        refine qfree_call (hB.new (fun _ _ _ => rfl) (by omega)) _ _ (by omega) ?_
        intro o1 nx1 hle1 hB1 hk1
        have k1 : QKeep t o nx o1 := fun i j (hi : i < nx) => hk1 i j (by omega)
        simp (disch := omega) only [go_sem, ↓IntWalk.iteOmega, IntWalk.toNatUp, Nat.reduceEqDiff, Nat.reduceAdd, Nat.reduceMul, Nat.reduceSub, Nat.reduceLT, Nat.reduceLeDiff, Int.reduceToNat, Int.reduceLT, Int.reduceLE, Int.reduceEq, Int.reduceAdd, Int.reduceSub, Int.reduceMul, Int.toNat_natCast, reduceCtorEq, decide_true, decide_false, IntWalk.i64_in, IntWalk.u64_in, IntWalk.u8_in, h0, h2, h3, h4, h5, h7, h12, hF, hl']
        refine ⟨_, ?_, i + 1, _, by omega, rfl, by omega, by omega, hB1.new (fun _ _ _ => rfl) (by omega), hT, by simp only [BS.free_f, List.length_append, List.length_cons, List.length_nil]; omega, hf'.keep k1 (by decide) (by decide) (by decide) (by omega), ht'.keep k1 (by decide) (by decide) (by decide) (by omega), k1.row ho7 hrn (fun e => absurd e (by decide)) (by decide) (by decide), rfl, by simp, by simp, hkp.trans k1 hnx⟩
        omega
  · have hf' := hf
    rw [List.drop_of_length_le (by omega), rLinks, frees_nil] at hT
    rcases hf with ⟨rfl, e1, _⟩ | ⟨i1, g1, rfl, hi1, hrow1, hlen1⟩
    · have hz : ¬ (i : Int) < 0 := by omega
      simp (disch := omega) only [go_sem, ↓IntWalk.iteOmega, IntWalk.toNatUp, Nat.reduceEqDiff, Nat.reduceAdd, Nat.reduceMul, Nat.reduceSub, Nat.reduceLT, Nat.reduceLeDiff, Int.reduceToNat, Int.reduceLT, Int.reduceLE, Int.reduceEq, Int.reduceAdd, Int.reduceSub, Int.reduceMul, Int.toNat_natCast, reduceCtorEq, decide_true, decide_false, IntWalk.i64_in, IntWalk.u64_in, IntWalk.u8_in, h0, h2, h3, h4, h5, h7, h12, hz]
      exact hQ _ _ _ (by omega) (by omega) ho7 (hT ▸ hB.new (fun _ _ _ => rfl) (by omega)) (by simp (disch := omega) only [go_sem, ↓IntWalk.iteOmega, IntWalk.toNatUp, Nat.reduceEqDiff, Nat.reduceAdd, Nat.reduceMul, Nat.reduceSub, Nat.reduceLT, Nat.reduceLeDiff, Int.reduceToNat, Int.reduceLT, Int.reduceLE, Int.reduceEq, Int.reduceAdd, Int.reduceSub, Int.reduceMul, Int.toNat_natCast, reduceCtorEq, decide_true, decide_false, IntWalk.i64_in, IntWalk.u64_in, IntWalk.u8_in, h0]) (by simp (disch := omega) only [go_sem, ↓IntWalk.iteOmega, IntWalk.toNatUp, Nat.reduceEqDiff, Nat.reduceAdd, Nat.reduceMul, Nat.reduceSub, Nat.reduceLT, Nat.reduceLeDiff, Int.reduceToNat, Int.reduceLT, Int.reduceLE, Int.reduceEq, Int.reduceAdd, Int.reduceSub, Int.reduceMul, Int.toNat_natCast, reduceCtorEq, decide_true, decide_false, IntWalk.i64_in, IntWalk.u64_in, IntWalk.u8_in, h2]) (by simp (disch := omega) only [go_sem, ↓IntWalk.iteOmega, IntWalk.toNatUp, Nat.reduceEqDiff, Nat.reduceAdd, Nat.reduceMul, Nat.reduceSub, Nat.reduceLT, Nat.reduceLeDiff, Int.reduceToNat, Int.reduceLT, Int.reduceLE, Int.reduceEq, Int.reduceAdd, Int.reduceSub, Int.reduceMul, Int.toNat_natCast, reduceCtorEq, decide_true, decide_false, IntWalk.i64_in, IntWalk.u64_in, IntWalk.u8_in, h3]) (by simp (disch := omega) only [go_sem, ↓IntWalk.iteOmega, IntWalk.toNatUp, Nat.reduceEqDiff, Nat.reduceAdd, Nat.reduceMul, Nat.reduceSub, Nat.reduceLT, Nat.reduceLeDiff, Int.reduceToNat, Int.reduceLT, Int.reduceLE, Int.reduceEq, Int.reduceAdd, Int.reduceSub, Int.reduceMul, Int.toNat_natCast, reduceCtorEq, decide_true, decide_false, IntWalk.i64_in, IntWalk.u64_in, IntWalk.u8_in, h7]) hkp
    · simp only [List.length_map] at h4
      simp (disch := omega) only [go_sem, ↓IntWalk.iteOmega, IntWalk.toNatUp, Nat.reduceEqDiff, Nat.reduceAdd, Nat.reduceMul, Nat.reduceSub, Nat.reduceLT, Nat.reduceLeDiff, Int.reduceToNat, Int.reduceLT, Int.reduceLE, Int.reduceEq, Int.reduceAdd, Int.reduceSub, Int.reduceMul, Int.toNat_natCast, reduceCtorEq, decide_true, decide_false, IntWalk.i64_in, IntWalk.u64_in, IntWalk.u8_in, h0, h2, h3, h4, h5, h7, h12]
      exact hQ _ _ _ (by omega) (by omega) ho7 (hT ▸ hB.new (fun _ _ _ => rfl) (by omega)) (by simp (disch := omega) only [go_sem, ↓IntWalk.iteOmega, IntWalk.toNatUp, Nat.reduceEqDiff, Nat.reduceAdd, Nat.reduceMul, Nat.reduceSub, Nat.reduceLT, Nat.reduceLeDiff, Int.reduceToNat, Int.reduceLT, Int.reduceLE, Int.reduceEq, Int.reduceAdd, Int.reduceSub, Int.reduceMul, Int.toNat_natCast, reduceCtorEq, decide_true, decide_false, IntWalk.i64_in, IntWalk.u64_in, IntWalk.u8_in, h0]) (by simp (disch := omega) only [go_sem, ↓IntWalk.iteOmega, IntWalk.toNatUp, Nat.reduceEqDiff, Nat.reduceAdd, Nat.reduceMul, Nat.reduceSub, Nat.reduceLT, Nat.reduceLeDiff, Int.reduceToNat, Int.reduceLT, Int.reduceLE, Int.reduceEq, Int.reduceAdd, Int.reduceSub, Int.reduceMul, Int.toNat_natCast, reduceCtorEq, decide_true, decide_false, IntWalk.i64_in, IntWalk.u64_in, IntWalk.u8_in, h2]) (by simp (disch := omega) only [go_sem, ↓IntWalk.iteOmega, IntWalk.toNatUp, Nat.reduceEqDiff, Nat.reduceAdd, Nat.reduceMul, Nat.reduceSub, Nat.reduceLT, Nat.reduceLeDiff, Int.reduceToNat, Int.reduceLT, Int.reduceLE, Int.reduceEq, Int.reduceAdd, Int.reduceSub, Int.reduceMul, Int.toNat_natCast, reduceCtorEq, decide_true, decide_false, IntWalk.i64_in, IntWalk.u64_in, IntWalk.u8_in, h3]) (by simp (disch := omega) only [go_sem, ↓IntWalk.iteOmega, IntWalk.toNatUp, Nat.reduceEqDiff, Nat.reduceAdd, Nat.reduceMul, Nat.reduceSub, Nat.reduceLT, Nat.reduceLeDiff, Int.reduceToNat, Int.reduceLT, Int.reduceLE, Int.reduceEq, Int.reduceAdd, Int.reduceSub, Int.reduceMul, Int.toNat_natCast, reduceCtorEq, decide_true, decide_false, IntWalk.i64_in, IntWalk.u64_in, IntWalk.u8_in, h7]) hkp
theorem qrep_ok {kind set lo hi s e : Int} {l : List Nd} {p : List (Int × Int)} {vf vt : AV} (hlo : 0 ≤ lo ∧ lo ≤ 10) (hlen : p.length ≤ 10) (hpi : 0 < hi ↔ 0 < p.length) {t : Nat} {o : Ob} {nx : Nat} {b : BS} (h : QAt o nx t b false) (hf : IAt 70 o nx vf (fstL p)) (ht : IAt 74 o nx vt (sndL p)) (hbf : b.f.length ≤ 900000) :
    ∃ v H', QRep [bp t, nodeV (.mk kind set lo hi l), .int .i64 s, .int .i64 e, vf, vt] ⟨o, nx⟩ v H' := by
  obtain ⟨cr, hcr⟩ : ∃ cr, cr = tabLookR [(58, cRel QFree)] := ⟨_, rfl⟩
  have hF : cr 58 = cRel QFree := by rw [hcr]; rfl
  obtain ⟨v, H', h1, h2⟩ := okR_of_WP (E := EX md0 (fun _ _ => none)) (cr := cr) (cp_none _) (hcr ▸ crQRep_ok) mixed (k := 30) (args := [bp t, nodeV (.mk kind set lo hi l), .int .i64 s, .int .i64 e, vf, vt]) (o := o) (nx := nx) (Post := fun v o' nx' => v = .tup [] ∧ QTo t (b.frees (repL lo s e p)) false ⟨o, nx⟩ ⟨o', nx'⟩) Tryd.func59 (lookQRep _) rfl (by
    clear hcr
    have hnew : ∀ y, ∀ i j, i < nx → upd o (nx, 7) y (i, j) = o (i, j) := fun y i j hi => by simp (disch := omega) only [upd_fst]
    have hsl : ∀ y, ∀ i j, j ≠ 7 → upd o (nx, 7) y (i, j) = o (i, j) := fun y i j hj => by simp [upd_app, hj]
    have htn : t < nx := by obtain ⟨vS, vF, h⟩ := h; exact h.lt
    have hbl : b.frees (repL lo s e p) = ((b.frees (headL s p)).frees (rLinks lo e 0 p)).frees (if lo = 0 then [(s, e)] else []) := by rw [repL, frees_app, frees_app]
    have fin : ∀ (Q : WPost) (a : AAct) (o' : Ob) (nx' : Nat), (∀ a o' nx', nx ≤ nx' → QAt o' nx' t (b.frees (repL lo s e p)) false → QKeep t o nx o' → Q .normal a o' nx') → nx ≤ nx' → nx < nx' → o' (nx, 7) = some (.row ⟨54, 1, (nx, 7), false, true, [.int .i64 kind, .int .i64 set, .int .i64 lo, .int .i64 hi, slN l]⟩) → QAt o' nx' t ((b.frees (headL s p)).frees (rLinks lo e 0 p)) false → a 0 = bp t → a 2 = .int .i64 s → a 3 = .int .i64 e → a 7 = .ptr (nx, 7) (nx, 7) 0 → QKeep t o nx o' → WP (EX md0 (fun _ _ => none)) cr 30 (fun _ => none) (pathC [1, 1, 1] (Tryd.f59.body.getD .skip)) a o' nx' Q := by
      intro Q a o' nx' hQ hnx hrn ho7 hB h0 h2 h3 h7 hk
      simp only [Tryd.f59, Option.getD_some, pathC]
      have hl2 : ((b.frees (headL s p)).frees (rLinks lo e 0 p)).f.length ≤ 1000000 := by
        have := rLinks_len lo e 0 p
        have h1 : (headL s p).length ≤ 1 := by unfold headL; split <;> simp
        show ((b.f ++ _) ++ _).length ≤ _
        simp only [List.length_append]; omega
      by_cases hz : lo = 0
      · rw [hbl, if_pos hz, frees_cons, frees_nil] at hQ
        simp (disch := omega) only [go_sem, ↓IntWalk.iteOmega, IntWalk.toNatUp, Nat.reduceEqDiff, Nat.reduceAdd, Nat.reduceMul, Nat.reduceSub, Nat.reduceLT, Nat.reduceLeDiff, Int.reduceToNat, Int.reduceLT, Int.reduceLE, Int.reduceEq, Int.reduceAdd, Int.reduceSub, Int.reduceMul, Int.toNat_natCast, reduceCtorEq, decide_true, decide_false, IntWalk.i64_in, IntWalk.u64_in, IntWalk.u8_in, h0, h2, h3, h7, ho7, hF, hz]
        refine qfree_call (hB.new (fun _ _ _ => rfl) (by omega)) _ _ (by omega) ?_
        intro o1 nx1 hle1 hB1 hk1
        simp (disch := omega) only [go_sem, ↓IntWalk.iteOmega, IntWalk.toNatUp, Nat.reduceEqDiff, Nat.reduceAdd, Nat.reduceMul, Nat.reduceSub, Nat.reduceLT, Nat.reduceLeDiff, Int.reduceToNat, Int.reduceLT, Int.reduceLE, Int.reduceEq, Int.reduceAdd, Int.reduceSub, Int.reduceMul, Int.toNat_natCast, reduceCtorEq, decide_true, decide_false, IntWalk.i64_in, IntWalk.u64_in, IntWalk.u8_in]
        exact hQ _ _ _ (by omega) hB1 (hk.trans (fun i j (hi : i < nx') => hk1 i j (by omega)) hnx)
      · rw [hbl, if_neg hz, frees_nil] at hQ
        simp (disch := omega) only [go_sem, ↓IntWalk.iteOmega, IntWalk.toNatUp, Nat.reduceEqDiff, Nat.reduceAdd, Nat.reduceMul, Nat.reduceSub, Nat.reduceLT, Nat.reduceLeDiff, Int.reduceToNat, Int.reduceLT, Int.reduceLE, Int.reduceEq, Int.reduceAdd, Int.reduceSub, Int.reduceMul, Int.toNat_natCast, reduceCtorEq, decide_true, decide_false, IntWalk.i64_in, IntWalk.u64_in, IntWalk.u8_in, h0, h2, h3, h7, ho7, hF, hz]
        exact hQ _ _ _ (by omega) (hB.new (fun _ _ _ => rfl) (by omega)) hk
    have loop : ∀ (Q : WPost) (b1 : BS) (a : AAct) (o' : Ob) (nx' : Nat), b1 = b.frees (headL s p) → (∀ a o' nx', nx ≤ nx' → QAt o' nx' t (b.frees (repL lo s e p)) false → QKeep t o nx o' → Q .normal a o' nx') → nx < nx' → o' (nx, 7) = some (.row ⟨54, 1, (nx, 7), false, true, [.int .i64 kind, .int .i64 set, .int .i64 lo, .int .i64 hi, slN l]⟩) → QAt o' nx' t b1 false → IAt 70 o' nx' vf (fstL p) → IAt 74 o' nx' vt (sndL p) → a 0 = bp t → a 2 = .int .i64 s → a 3 = .int .i64 e → a 4 = vf → a 5 = vt → a 7 = .ptr (nx, 7) (nx, 7) 0 → a 12 = .int .i64 0 → QKeep t o nx o' → WP (EX md0 (fun _ _ => none)) cr 30 (fun _ => none) (pathC [1, 1, 0, 1, 0] (Tryd.f59.body.getD .skip)) a o' nx' (blockQ 0 (thenQ (EX md0 (fun _ _ => none)) cr 30 (fun _ => none) (pathC [1, 1, 1] (Tryd.f59.body.getD .skip)) Q)) := by
      intro Q b1 a o' nx' hb1 hQ hrn ho7 hB hf ht h0 h2 h3 h4 h5 h7 h12 hk
      have h1 : (headL s p).length ≤ 1 := by unfold headL; split <;> simp
      refine qrep_loop hF hlo hlen (Nat.le_refl nx) hrn (by omega) hB rfl (by rw [hb1]; show (b.f ++ _).length ≤ _; rw [List.length_append]; omega) hf ht ho7 h12 ⟨h0, h2, h3, h4, h5, h7, hk⟩ ?_
      intro a o' nx' hnx hrn ho7 hB h0 h2 h3 h7 hk
      rw [hb1] at hB
      exact fin Q a o' nx' hQ hnx hrn ho7 hB h0 h2 h3 h7 hk
    simp only [Tryd.f59, Option.getD_some]
    by_cases hp : 0 < hi
    · have hpp := hpi.1 hp
      have e1 : headL s p = [(s, (p.getD 0 (0, 0)).1)] := by
        cases hpe : p with
        | nil => rw [hpe] at hpp; simp at hpp
        | cons x y => rfl
      have g0 := fst_get hpp
      rw [List.drop_zero] at g0
      have hf' := hf
      rcases hf with ⟨_, e1, _⟩ | ⟨i1, g1, rfl, hi1, hrow1, hlen1⟩
      · simp only [List.length_map] at e1; omega
      have hz : (0 : Int) < (fstL p).length := by simp only [List.length_map]; omega
      simp (disch := omega) only [go_sem, ↓IntWalk.iteOmega, IntWalk.toNatUp, Nat.reduceEqDiff, Nat.reduceAdd, Nat.reduceMul, Nat.reduceSub, Nat.reduceLT, Nat.reduceLeDiff, Int.reduceToNat, Int.reduceLT, Int.reduceLE, Int.reduceEq, Int.reduceAdd, Int.reduceSub, Int.reduceMul, Int.toNat_natCast, reduceCtorEq, decide_true, decide_false, IntWalk.i64_in, IntWalk.u64_in, IntWalk.u8_in, hp, hF, hrow1, g0, cNd_mk, hz]
      refine qfree_call (h.new (hnew _) (by omega)) _ _ (by omega) ?_
      intro o1 nx1 hle1 hB1 hk1
      have k1 : QKeep t o nx o1 := (QKeep.new (hnew _)).trans hk1 (by omega)
      have hx7 : o1 (nx, 7) = some (.row ⟨54, 1, (nx, 7), false, true, [.int .i64 kind, .int .i64 set, .int .i64 lo, .int .i64 hi, slN l]⟩) := by rw [hk1 _ _ (by omega) (fun e => absurd e (by decide)) (by decide) (by decide)]; simp [upd_app]
      simp (disch := omega) only [go_sem, ↓IntWalk.iteOmega, IntWalk.toNatUp, Nat.reduceEqDiff, Nat.reduceAdd, Nat.reduceMul, Nat.reduceSub, Nat.reduceLT, Nat.reduceLeDiff, Int.reduceToNat, Int.reduceLT, Int.reduceLE, Int.reduceEq, Int.reduceAdd, Int.reduceSub, Int.reduceMul, Int.toNat_natCast, reduceCtorEq, decide_true, decide_false, IntWalk.i64_in, IntWalk.u64_in, IntWalk.u8_in]
      exact loop _ _ _ _ _ (by rw [e1, frees_cons, frees_nil]) (fun a o' nx' hn hB hk => ⟨.inl rfl, rfl, hn, hB, hk⟩) (by omega) hx7 (hB1.new (fun _ _ _ => rfl) (by omega)) (hf'.keep k1 (by decide) (by decide) (by decide) (by omega)) (ht.keep k1 (by decide) (by decide) (by decide) (by omega)) (by simp (disch := omega) only [go_sem, ↓IntWalk.iteOmega, IntWalk.toNatUp, Nat.reduceEqDiff, Nat.reduceAdd, Nat.reduceMul, Nat.reduceSub, Nat.reduceLT, Nat.reduceLeDiff, Int.reduceToNat, Int.reduceLT, Int.reduceLE, Int.reduceEq, Int.reduceAdd, Int.reduceSub, Int.reduceMul, Int.toNat_natCast, reduceCtorEq, decide_true, decide_false, IntWalk.i64_in, IntWalk.u64_in, IntWalk.u8_in]) (by simp (disch := omega) only [go_sem, ↓IntWalk.iteOmega, IntWalk.toNatUp, Nat.reduceEqDiff, Nat.reduceAdd, Nat.reduceMul, Nat.reduceSub, Nat.reduceLT, Nat.reduceLeDiff, Int.reduceToNat, Int.reduceLT, Int.reduceLE, Int.reduceEq, Int.reduceAdd, Int.reduceSub, Int.reduceMul, Int.toNat_natCast, reduceCtorEq, decide_true, decide_false, IntWalk.i64_in, IntWalk.u64_in, IntWalk.u8_in]) (by simp (disch := omega) only [go_sem, ↓IntWalk.iteOmega, IntWalk.toNatUp, Nat.reduceEqDiff, Nat.reduceAdd, Nat.reduceMul, Nat.reduceSub, Nat.reduceLT, Nat.reduceLeDiff, Int.reduceToNat, Int.reduceLT, Int.reduceLE, Int.reduceEq, Int.reduceAdd, Int.reduceSub, Int.reduceMul, Int.toNat_natCast, reduceCtorEq, decide_true, decide_false, IntWalk.i64_in, IntWalk.u64_in, IntWalk.u8_in]) (by simp (disch := omega) only [go_sem, ↓IntWalk.iteOmega, IntWalk.toNatUp, Nat.reduceEqDiff, Nat.reduceAdd, Nat.reduceMul, Nat.reduceSub, Nat.reduceLT, Nat.reduceLeDiff, Int.reduceToNat, Int.reduceLT, Int.reduceLE, Int.reduceEq, Int.reduceAdd, Int.reduceSub, Int.reduceMul, Int.toNat_natCast, reduceCtorEq, decide_true, decide_false, IntWalk.i64_in, IntWalk.u64_in, IntWalk.u8_in]) (by simp (disch := omega) only [go_sem, ↓IntWalk.iteOmega, IntWalk.toNatUp, Nat.reduceEqDiff, Nat.reduceAdd, Nat.reduceMul, Nat.reduceSub, Nat.reduceLT, Nat.reduceLeDiff, Int.reduceToNat, Int.reduceLT, Int.reduceLE, Int.reduceEq, Int.reduceAdd, Int.reduceSub, Int.reduceMul, Int.toNat_natCast, reduceCtorEq, decide_true, decide_false, IntWalk.i64_in, IntWalk.u64_in, IntWalk.u8_in]) (by simp (disch := omega) only [go_sem, ↓IntWalk.iteOmega, IntWalk.toNatUp, Nat.reduceEqDiff, Nat.reduceAdd, Nat.reduceMul, Nat.reduceSub, Nat.reduceLT, Nat.reduceLeDiff, Int.reduceToNat, Int.reduceLT, Int.reduceLE, Int.reduceEq, Int.reduceAdd, Int.reduceSub, Int.reduceMul, Int.toNat_natCast, reduceCtorEq, decide_true, decide_false, IntWalk.i64_in, IntWalk.u64_in, IntWalk.u8_in]) (by simp (disch := omega) only [go_sem, ↓IntWalk.iteOmega, IntWalk.toNatUp, Nat.reduceEqDiff, Nat.reduceAdd, Nat.reduceMul, Nat.reduceSub, Nat.reduceLT, Nat.reduceLeDiff, Int.reduceToNat, Int.reduceLT, Int.reduceLE, Int.reduceEq, Int.reduceAdd, Int.reduceSub, Int.reduceMul, Int.toNat_natCast, reduceCtorEq, decide_true, decide_false, IntWalk.i64_in, IntWalk.u64_in, IntWalk.u8_in]) k1
    · have e1 : headL s p = [] := by
        cases hpe : p with
        | nil => rfl
        | cons x y => rw [hpe] at hpi; exact absurd (hpi.2 (by simp)) hp
      simp (disch := omega) only [go_sem, ↓IntWalk.iteOmega, IntWalk.toNatUp, Nat.reduceEqDiff, Nat.reduceAdd, Nat.reduceMul, Nat.reduceSub, Nat.reduceLT, Nat.reduceLeDiff, Int.reduceToNat, Int.reduceLT, Int.reduceLE, Int.reduceEq, Int.reduceAdd, Int.reduceSub, Int.reduceMul, Int.toNat_natCast, reduceCtorEq, decide_true, decide_false, IntWalk.i64_in, IntWalk.u64_in, IntWalk.u8_in, hp, hF, cNd_mk]
      exact loop _ _ _ _ _ (by rw [e1, frees_nil]) (fun a o' nx' hn hB hk => ⟨.inl rfl, rfl, hn, hB, hk⟩) (by omega) (upd_same _ _ _) (h.new (hnew _) (by omega)) (hf.slot (fun i => hsl _ i 70 (by decide)) (by omega)) (ht.slot (fun i => hsl _ i 74 (by decide)) (by omega)) (by simp (disch := omega) only [go_sem, ↓IntWalk.iteOmega, IntWalk.toNatUp, Nat.reduceEqDiff, Nat.reduceAdd, Nat.reduceMul, Nat.reduceSub, Nat.reduceLT, Nat.reduceLeDiff, Int.reduceToNat, Int.reduceLT, Int.reduceLE, Int.reduceEq, Int.reduceAdd, Int.reduceSub, Int.reduceMul, Int.toNat_natCast, reduceCtorEq, decide_true, decide_false, IntWalk.i64_in, IntWalk.u64_in, IntWalk.u8_in]) (by simp (disch := omega) only [go_sem, ↓IntWalk.iteOmega, IntWalk.toNatUp, Nat.reduceEqDiff, Nat.reduceAdd, Nat.reduceMul, Nat.reduceSub, Nat.reduceLT, Nat.reduceLeDiff, Int.reduceToNat, Int.reduceLT, Int.reduceLE, Int.reduceEq, Int.reduceAdd, Int.reduceSub, Int.reduceMul, Int.toNat_natCast, reduceCtorEq, decide_true, decide_false, IntWalk.i64_in, IntWalk.u64_in, IntWalk.u8_in]) (by simp (disch := omega) only [go_sem, ↓IntWalk.iteOmega, IntWalk.toNatUp, Nat.reduceEqDiff, Nat.reduceAdd, Nat.reduceMul, Nat.reduceSub, Nat.reduceLT, Nat.reduceLeDiff, Int.reduceToNat, Int.reduceLT, Int.reduceLE, Int.reduceEq, Int.reduceAdd, Int.reduceSub, Int.reduceMul, Int.toNat_natCast, reduceCtorEq, decide_true, decide_false, IntWalk.i64_in, IntWalk.u64_in, IntWalk.u8_in]) (by simp (disch := omega) only [go_sem, ↓IntWalk.iteOmega, IntWalk.toNatUp, Nat.reduceEqDiff, Nat.reduceAdd, Nat.reduceMul, Nat.reduceSub, Nat.reduceLT, Nat.reduceLeDiff, Int.reduceToNat, Int.reduceLT, Int.reduceLE, Int.reduceEq, Int.reduceAdd, Int.reduceSub, Int.reduceMul, Int.toNat_natCast, reduceCtorEq, decide_true, decide_false, IntWalk.i64_in, IntWalk.u64_in, IntWalk.u8_in]) (by simp (disch := omega) only [go_sem, ↓IntWalk.iteOmega, IntWalk.toNatUp, Nat.reduceEqDiff, Nat.reduceAdd, Nat.reduceMul, Nat.reduceSub, Nat.reduceLT, Nat.reduceLeDiff, Int.reduceToNat, Int.reduceLT, Int.reduceLE, Int.reduceEq, Int.reduceAdd, Int.reduceSub, Int.reduceMul, Int.toNat_natCast, reduceCtorEq, decide_true, decide_false, IntWalk.i64_in, IntWalk.u64_in, IntWalk.u8_in]) (by simp (disch := omega) only [go_sem, ↓IntWalk.iteOmega, IntWalk.toNatUp, Nat.reduceEqDiff, Nat.reduceAdd, Nat.reduceMul, Nat.reduceSub, Nat.reduceLT, Nat.reduceLeDiff, Int.reduceToNat, Int.reduceLT, Int.reduceLE, Int.reduceEq, Int.reduceAdd, Int.reduceSub, Int.reduceMul, Int.toNat_natCast, reduceCtorEq, decide_true, decide_false, IntWalk.i64_in, IntWalk.u64_in, IntWalk.u8_in]) (by simp (disch := omega) only [go_sem, ↓IntWalk.iteOmega, IntWalk.toNatUp, Nat.reduceEqDiff, Nat.reduceAdd, Nat.reduceMul, Nat.reduceSub, Nat.reduceLT, Nat.reduceLeDiff, Int.reduceToNat, Int.reduceLT, Int.reduceLE, Int.reduceEq, Int.reduceAdd, Int.reduceSub, Int.reduceMul, Int.toNat_natCast, reduceCtorEq, decide_true, decide_false, IntWalk.i64_in, IntWalk.u64_in, IntWalk.u8_in]) (QKeep.new (hnew _)))
  refine ⟨v, H', h1, fun t' b' kind' set' lo' hi' l' s' e' vf' vt' p' e hf' ht' hb => ?_⟩
  simp only [List.cons.injEq, AV.ptr.injEq, Prod.mk.injEq, AV.agg.injEq, AV.int.injEq, true_and, and_true] at e
  obtain ⟨⟨rfl, _⟩, e2, rfl, rfl, rfl, rfl⟩ := e
  have e3 := cNd_inj e2
  injection e3 with _ _ r1 _ _
  have e4 : p = p' := by
    have q1 := hf.same hf'
    have q2 := ht.same ht'
    exact pairs_eq q1 q2
  rw [← (h.same hb).1, ← r1, ← e4]
  exact h2
end Go.Proofs.YthhfjjnhkifbfaaDoor.A
/- The document's builder: lead. -/
namespace Go.Proofs.YthhfjjnhkifbfaaDoor.A
open Go
set_option maxRecDepth 20000
def leadB (kind set lo s e : Int) (p : List (Int × Int)) (b : BS) : BS :=
  if kind = 1 then b.step s e set
  else if kind = 3 then b.free s e
  else if kind = 5 then b.frees (uLinks s e p)
  else if kind = 6 then b.frees [(s, (p.getD 0 (0, 0)).1), (s, e), ((p.getD 0 (0, 0)).2, (p.getD 0 (0, 0)).1), ((p.getD 0 (0, 0)).2, e)]
  else if kind = 7 then b.frees [(s, (p.getD 0 (0, 0)).1), ((p.getD 0 (0, 0)).2, (p.getD 0 (0, 0)).1), ((p.getD 0 (0, 0)).2, e)]
  else if kind = 8 then b.frees [(s, (p.getD 0 (0, 0)).1), (s, e), ((p.getD 0 (0, 0)).2, e)]
  else if kind = 9 then b.frees (repL lo s e p)
  else b
def QLead (args : List AV) (H : AH) (v : AV) (H' : AH) : Prop := OkR Tryd.prog 53 args H v H' ∧ ∀ t b kind set lo hi l s e vf vt p, args = [bp t, nodeV (.mk kind set lo hi l), .int .i64 s, .int .i64 e, vf, vt] → IAt 70 H.o H.nx vf (fstL p) → IAt 74 H.o H.nx vt (sndL p) → QAt H.o H.nx t b false → v = .tup [] ∧ QTo t (leadB kind set lo s e p b) false H H'
def nzLead (id : Nat) : Option (List (Nat × Nat)) := if id = 3 then some [(5, 11)] else none
theorem lookQLead (X) : lookedAt (EX md0 X) nzLead 6 Tryd.f53 = true := by kernel_rfl
noncomputable abbrev tabLead : List (FuncId × (List AV → AH → Option (AV × AH))) := [(58, cRel QFree), (59, cRel QRep)]
theorem crQLead_ok : CRSound Tryd.prog (tabLookR tabLead) ∧ Up (tabLookR tabLead) :=
  tabR_cons (tabR_cons (tabR_nil _) fun args H v H' h => (cRel_some h).1) fun args H v H' h => (cRel_some h).1
/-- The walk of lead gives its contract. -/
theorem lead_of {kind set lo hi s e : Int} {l : List Nd} {p : List (Int × Int)} {vf vt : AV} {t : Nat} {o : Ob} {nx : Nat} {b : BS} (h : QAt o nx t b false) (hf : IAt 70 o nx vf (fstL p)) (ht : IAt 74 o nx vt (sndL p))
    (w : ∀ cr, cr 58 = cRel QFree → cr 59 = cRel QRep → WP (EX md0 (fun _ _ => none)) cr 30 nzLead (Tryd.f53.body.getD .skip) (begin_ [bp t, nodeV (.mk kind set lo hi l), .int .i64 s, .int .i64 e, vf, vt]) o nx (fun u a o' nx' => (u = .normal ∨ u = .ret) ∧ wO (resultsL Tryd.prog a ⟨o', nx'⟩ Tryd.f53.results.toList) (fun vs => tup1 vs = .tup [] ∧ QTo t (leadB kind set lo s e p b) false ⟨o, nx⟩ ⟨o', nx'⟩))) :
    ∃ v H', QLead [bp t, nodeV (.mk kind set lo hi l), .int .i64 s, .int .i64 e, vf, vt] ⟨o, nx⟩ v H' := by
  obtain ⟨v, H', h1, h2⟩ := okR_of_WP (E := EX md0 (fun _ _ => none)) (cr := tabLookR tabLead) (cp_none _) crQLead_ok mixed (k := 30) (nz := nzLead) (args := [bp t, nodeV (.mk kind set lo hi l), .int .i64 s, .int .i64 e, vf, vt]) (o := o) (nx := nx) (Post := fun v o' nx' => v = .tup [] ∧ QTo t (leadB kind set lo s e p b) false ⟨o, nx⟩ ⟨o', nx'⟩) Tryd.func53 (lookQLead _) rfl (w _ rfl rfl)
  refine ⟨v, H', h1, fun t' b' kind' set' lo' hi' l' s' e' vf' vt' p' e hf' ht' hb => ?_⟩
  simp only [List.cons.injEq, AV.ptr.injEq, Prod.mk.injEq, AV.agg.injEq, AV.int.injEq, true_and, and_true] at e
  obtain ⟨⟨rfl, _⟩, e2, rfl, rfl, rfl, rfl⟩ := e
  have e3 := cNd_inj e2
  injection e3 with r0 r1 r2 _ _
  rw [← (h.same hb).1, ← r0, ← r1, ← r2, ← pairs_eq (hf.same hf') (ht.same ht')]
  exact h2
theorem ulead_loop {cr : CallR} (hF : cr 58 = cRel QFree) {s e : Int} {t : Nat} {o0 : Ob} {nx0 : Nat} {T b : BS} {p : List (Int × Int)} {vf vt : AV} {a : AAct} {o : Ob} {nx : Nat} {Q : WPost} (hlen : p.length ≤ 10) (hnx : nx0 ≤ nx) (hB : QAt o nx t b false) (hT : b.frees (uLinks s e p) = T) (hbf : b.f.length ≤ 1000000) (hf : IAt 70 o nx vf (fstL p)) (ht : IAt 74 o nx vt (sndL p)) (h12 : a 12 = .int .i64 0)
    (hmore : a 0 = bp t ∧ a 2 = .int .i64 s ∧ a 3 = .int .i64 e ∧ a 4 = vf ∧ a 5 = vt ∧ QKeep t o0 nx0 o)
    (hQ : ∀ a o nx, nx0 ≤ nx → QAt o nx t T false → QKeep t o0 nx0 o → Q .normal a o nx) :
    WP (EX md0 (fun _ _ => none)) cr 30 nzLead (pathC [1, 1, 0, 1, 1, 1, 1, 1, 0, 1, 0] (Tryd.f53.body.getD .skip)) a o nx (blockQ 1 Q) := by
  simp only [Tryd.f53, Option.getD_some, pathC]
  refine WP_loop (fun m a o nx => ∃ (i : Nat) (b : BS), i ≤ p.length ∧ m = p.length - i ∧ nx0 ≤ nx ∧ QAt o nx t b false ∧ b.frees (uLinks s e (p.drop i)) = T ∧ b.f.length ≤ 1000000 + 2 * i ∧ IAt 70 o nx vf (fstL p) ∧ IAt 74 o nx vt (sndL p) ∧ a 12 = .int .i64 i ∧ a 0 = bp t ∧ a 2 = .int .i64 s ∧ a 3 = .int .i64 e ∧ a 4 = vf ∧ a 5 = vt ∧ QKeep t o0 nx0 o) p.length (by omega) ⟨0, b, by omega, by omega, hnx, hB, hT, by omega, hf, ht, h12, hmore⟩ ?_
  clear hmore h12 hB hT hbf hf ht hnx
  rintro m a o nx ⟨i, b, hi, rfl, hnx, hB, hT, hbf, hf, ht, h12, h0, h2, h3, h4, h5, hkp⟩
  by_cases hlt : i < p.length
  · have hf' := hf
    have ht' := ht
    rcases hf with ⟨_, e1, _⟩ | ⟨i1, g1, rfl, hi1, hrow1, hlen1⟩
    · simp only [List.length_map] at e1; omega
    rcases ht with ⟨_, e1, _⟩ | ⟨i2, g2, rfl, hi2, hrow2, hlen2⟩
    · simp only [List.length_map] at e1; omega
    simp only [List.length_map] at h4 h5
    have g0 := snd_get hlt
    have g1' := fst_get hlt
    rw [getD_drop p (0, 0) hlt, show uLinks s e (p.getD i (0, 0) :: p.drop (i + 1)) = (s, (p.getD i (0, 0)).1) :: ((p.getD i (0, 0)).2, e) :: uLinks s e (p.drop (i + 1)) from rfl, frees_cons, frees_cons] at hT
    simp (disch := omega) only [go_sem, ↓IntWalk.iteOmega, IntWalk.toNatUp, Nat.reduceEqDiff, Nat.reduceAdd, Nat.reduceMul, Nat.reduceSub, Nat.reduceLT, Nat.reduceLeDiff, Int.reduceToNat, Int.reduceLT, Int.reduceLE, Int.reduceEq, Int.reduceAdd, Int.reduceSub, Int.reduceMul, Int.toNat_natCast, reduceCtorEq, decide_true, decide_false, IntWalk.i64_in, IntWalk.u64_in, IntWalk.u8_in, h0, h2, h3, h4, h5, h12, hrow1, hrow2, g0, g1', hF]
    refine qfree_call (hB.new (fun _ _ _ => rfl) (by omega)) _ _ (by omega) ?_
    intro o1 nx1 hle1 hB1 hk1
    have k1 : QKeep t o nx o1 := fun i j (hi : i < nx) => hk1 i j (by omega)
    have hr1 := k1.row hrow1 hi1 (fun e => absurd e (by decide)) (by decide) (by decide)
    have hr2 := k1.row hrow2 hi2 (fun e => absurd e (by decide)) (by decide) (by decide)
    simp (disch := omega) only [go_sem, ↓IntWalk.iteOmega, IntWalk.toNatUp, Nat.reduceEqDiff, Nat.reduceAdd, Nat.reduceMul, Nat.reduceSub, Nat.reduceLT, Nat.reduceLeDiff, Int.reduceToNat, Int.reduceLT, Int.reduceLE, Int.reduceEq, Int.reduceAdd, Int.reduceSub, Int.reduceMul, Int.toNat_natCast, reduceCtorEq, decide_true, decide_false, IntWalk.i64_in, IntWalk.u64_in, IntWalk.u8_in, h0, h2, h3, h4, h5, h12, hr1, hr2, g0, g1', hF]
    refine qfree_call (hB1.new (fun _ _ _ => rfl) (by omega)) _ _ (by simp only [BS.free_f, List.length_append, List.length_cons, List.length_nil]; omega) ?_
    intro o2 nx2 hle2 hB2 hk2
    have k2 : QKeep t o nx o2 := k1.trans (fun i j (hi : i < nx1) => hk2 i j (by omega)) (by omega)
    simp (disch := omega) only [go_sem, ↓IntWalk.iteOmega, IntWalk.toNatUp, Nat.reduceEqDiff, Nat.reduceAdd, Nat.reduceMul, Nat.reduceSub, Nat.reduceLT, Nat.reduceLeDiff, Int.reduceToNat, Int.reduceLT, Int.reduceLE, Int.reduceEq, Int.reduceAdd, Int.reduceSub, Int.reduceMul, Int.toNat_natCast, reduceCtorEq, decide_true, decide_false, IntWalk.i64_in, IntWalk.u64_in, IntWalk.u8_in, h0, h2, h3, h4, h5, h12, hF]
    refine ⟨_, ?_, i + 1, _, by omega, rfl, by omega, hB2.new (fun _ _ _ => rfl) (by omega), hT, by simp only [BS.free_f, List.length_append, List.length_cons, List.length_nil]; omega, hf'.keep k2 (by decide) (by decide) (by decide) (by omega), ht'.keep k2 (by decide) (by decide) (by decide) (by omega), rfl, by simp, by simp, hkp.trans k2 hnx⟩
    omega
  · rw [List.drop_of_length_le (by omega), show uLinks s e [] = [] from rfl, frees_nil] at hT
    rcases hf with ⟨rfl, e1, _⟩ | ⟨i1, g1, rfl, hi1, hrow1, hlen1⟩
    · have hz : ¬ (i : Int) < 0 := by omega
      simp (disch := omega) only [go_sem, ↓IntWalk.iteOmega, IntWalk.toNatUp, Nat.reduceEqDiff, Nat.reduceAdd, Nat.reduceMul, Nat.reduceSub, Nat.reduceLT, Nat.reduceLeDiff, Int.reduceToNat, Int.reduceLT, Int.reduceLE, Int.reduceEq, Int.reduceAdd, Int.reduceSub, Int.reduceMul, Int.toNat_natCast, reduceCtorEq, decide_true, decide_false, IntWalk.i64_in, IntWalk.u64_in, IntWalk.u8_in, h0, h2, h3, h4, h5, h12, hz]
      exact hQ _ _ _ (by omega) (hT ▸ hB.new (fun _ _ _ => rfl) (by omega)) hkp
    · simp only [List.length_map] at h4
      simp (disch := omega) only [go_sem, ↓IntWalk.iteOmega, IntWalk.toNatUp, Nat.reduceEqDiff, Nat.reduceAdd, Nat.reduceMul, Nat.reduceSub, Nat.reduceLT, Nat.reduceLeDiff, Int.reduceToNat, Int.reduceLT, Int.reduceLE, Int.reduceEq, Int.reduceAdd, Int.reduceSub, Int.reduceMul, Int.toNat_natCast, reduceCtorEq, decide_true, decide_false, IntWalk.i64_in, IntWalk.u64_in, IntWalk.u8_in, h0, h2, h3, h4, h5, h12]
      exact hQ _ _ _ (by omega) (hT ▸ hB.new (fun _ _ _ => rfl) (by omega)) hkp
section
variable {kind set lo hi s e : Int} {l : List Nd} {p : List (Int × Int)} {vf vt : AV} {t : Nat} {o : Ob} {nx : Nat} {b : BS}
theorem qto_fin {b' : BS} {o1 : Ob} {nx1 nx2 : Nat} (hB1 : QAt o1 nx1 t b' false) (k1 : QKeep t o nx o1) (hle : nx ≤ nx1) (h2 : nx1 ≤ nx2) : QTo t b' false ⟨o, nx⟩ ⟨o1, nx2⟩ := ⟨by show nx ≤ nx2; omega, hB1.new (fun _ _ _ => rfl) h2, k1⟩
theorem lead_union (h : QAt o nx t b false) (hf : IAt 70 o nx vf (fstL p)) (ht : IAt 74 o nx vt (sndL p)) (hbf : b.f.length ≤ 800000) (hlen : p.length ≤ 10) (hk : kind = 5) : ∃ v H', QLead [bp t, nodeV (.mk kind set lo hi l), .int .i64 s, .int .i64 e, vf, vt] ⟨o, nx⟩ v H' := by
  refine lead_of h hf ht fun cr hF hR => ?_
  have hsl : ∀ y, ∀ i j, j ≠ 7 → upd o (nx, 7) y (i, j) = o (i, j) := fun y i j hj => by simp [upd_app, hj]
  have hnew : ∀ y, ∀ i j, i < nx → upd o (nx, 7) y (i, j) = o (i, j) := fun y i j hi => by simp (disch := omega) only [upd_fst]
  have e1 : leadB kind set lo s e p b = b.frees (uLinks s e p) := by rw [leadB, if_neg (by omega), if_neg (by omega), if_pos hk]
  rw [e1]
  subst hk
  simp only [Tryd.f53, Option.getD_some]
  simp (disch := omega) only [go_sem, ↓IntWalk.iteOmega, IntWalk.toNatUp, Nat.reduceEqDiff, Nat.reduceAdd, Nat.reduceMul, Nat.reduceSub, Nat.reduceLT, Nat.reduceLeDiff, Int.reduceToNat, Int.reduceLT, Int.reduceLE, Int.reduceEq, Int.reduceAdd, Int.reduceSub, Int.reduceMul, Int.toNat_natCast, reduceCtorEq, decide_true, decide_false, IntWalk.i64_in, IntWalk.u64_in, IntWalk.u8_in, hF, nzLead]
  refine ulead_loop hF (s := s) (e := e) (o0 := o) (nx0 := nx) hlen (by omega) (h.new (hnew _) (by omega)) rfl (by omega) (hf.slot (fun i => hsl _ i 70 (by decide)) (by omega)) (ht.slot (fun i => hsl _ i 74 (by decide)) (by omega)) (by simp (disch := omega) only [go_sem, ↓IntWalk.iteOmega, IntWalk.toNatUp, Nat.reduceEqDiff, Nat.reduceAdd, Nat.reduceMul, Nat.reduceSub, Nat.reduceLT, Nat.reduceLeDiff, Int.reduceToNat, Int.reduceLT, Int.reduceLE, Int.reduceEq, Int.reduceAdd, Int.reduceSub, Int.reduceMul, Int.toNat_natCast, reduceCtorEq, decide_true, decide_false, IntWalk.i64_in, IntWalk.u64_in, IntWalk.u8_in]) ⟨by simp (disch := omega) only [go_sem, ↓IntWalk.iteOmega, IntWalk.toNatUp, Nat.reduceEqDiff, Nat.reduceAdd, Nat.reduceMul, Nat.reduceSub, Nat.reduceLT, Nat.reduceLeDiff, Int.reduceToNat, Int.reduceLT, Int.reduceLE, Int.reduceEq, Int.reduceAdd, Int.reduceSub, Int.reduceMul, Int.toNat_natCast, reduceCtorEq, decide_true, decide_false, IntWalk.i64_in, IntWalk.u64_in, IntWalk.u8_in], by simp (disch := omega) only [go_sem, ↓IntWalk.iteOmega, IntWalk.toNatUp, Nat.reduceEqDiff, Nat.reduceAdd, Nat.reduceMul, Nat.reduceSub, Nat.reduceLT, Nat.reduceLeDiff, Int.reduceToNat, Int.reduceLT, Int.reduceLE, Int.reduceEq, Int.reduceAdd, Int.reduceSub, Int.reduceMul, Int.toNat_natCast, reduceCtorEq, decide_true, decide_false, IntWalk.i64_in, IntWalk.u64_in, IntWalk.u8_in], by simp (disch := omega) only [go_sem, ↓IntWalk.iteOmega, IntWalk.toNatUp, Nat.reduceEqDiff, Nat.reduceAdd, Nat.reduceMul, Nat.reduceSub, Nat.reduceLT, Nat.reduceLeDiff, Int.reduceToNat, Int.reduceLT, Int.reduceLE, Int.reduceEq, Int.reduceAdd, Int.reduceSub, Int.reduceMul, Int.toNat_natCast, reduceCtorEq, decide_true, decide_false, IntWalk.i64_in, IntWalk.u64_in, IntWalk.u8_in], by simp (disch := omega) only [go_sem, ↓IntWalk.iteOmega, IntWalk.toNatUp, Nat.reduceEqDiff, Nat.reduceAdd, Nat.reduceMul, Nat.reduceSub, Nat.reduceLT, Nat.reduceLeDiff, Int.reduceToNat, Int.reduceLT, Int.reduceLE, Int.reduceEq, Int.reduceAdd, Int.reduceSub, Int.reduceMul, Int.toNat_natCast, reduceCtorEq, decide_true, decide_false, IntWalk.i64_in, IntWalk.u64_in, IntWalk.u8_in], by simp (disch := omega) only [go_sem, ↓IntWalk.iteOmega, IntWalk.toNatUp, Nat.reduceEqDiff, Nat.reduceAdd, Nat.reduceMul, Nat.reduceSub, Nat.reduceLT, Nat.reduceLeDiff, Int.reduceToNat, Int.reduceLT, Int.reduceLE, Int.reduceEq, Int.reduceAdd, Int.reduceSub, Int.reduceMul, Int.toNat_natCast, reduceCtorEq, decide_true, decide_false, IntWalk.i64_in, IntWalk.u64_in, IntWalk.u8_in], QKeep.new (hnew _)⟩ ?_
  intro a o1 nx1 hn1 hB1 k1
  simp (disch := omega) only [go_sem, ↓IntWalk.iteOmega, IntWalk.toNatUp, Nat.reduceEqDiff, Nat.reduceAdd, Nat.reduceMul, Nat.reduceSub, Nat.reduceLT, Nat.reduceLeDiff, Int.reduceToNat, Int.reduceLT, Int.reduceLE, Int.reduceEq, Int.reduceAdd, Int.reduceSub, Int.reduceMul, Int.toNat_natCast, reduceCtorEq, decide_true, decide_false, IntWalk.i64_in, IntWalk.u64_in, IntWalk.u8_in]
  exact ⟨rfl, qto_fin hB1 k1 hn1 (Nat.le_refl _)⟩
theorem lead_none (h : QAt o nx t b false) (hf : IAt 70 o nx vf (fstL p)) (ht : IAt 74 o nx vt (sndL p)) (hbf : b.f.length ≤ 800000) (hk : kind = 3) : ∃ v H', QLead [bp t, nodeV (.mk kind set lo hi l), .int .i64 s, .int .i64 e, vf, vt] ⟨o, nx⟩ v H' := by
  refine lead_of h hf ht fun cr hF hR => ?_
  have hnew : ∀ y, ∀ i j, i < nx → upd o (nx, 7) y (i, j) = o (i, j) := fun y i j hi => by simp (disch := omega) only [upd_fst]
  have e1 : leadB kind set lo s e p b = b.free s e := by rw [leadB, if_neg (by omega), if_pos hk]
  rw [e1]
  subst hk
  simp only [Tryd.f53, Option.getD_some]
  simp (disch := omega) only [go_sem, ↓IntWalk.iteOmega, IntWalk.toNatUp, Nat.reduceEqDiff, Nat.reduceAdd, Nat.reduceMul, Nat.reduceSub, Nat.reduceLT, Nat.reduceLeDiff, Int.reduceToNat, Int.reduceLT, Int.reduceLE, Int.reduceEq, Int.reduceAdd, Int.reduceSub, Int.reduceMul, Int.toNat_natCast, reduceCtorEq, decide_true, decide_false, IntWalk.i64_in, IntWalk.u64_in, IntWalk.u8_in, hF, nzLead]
  refine qfree_call (h.new (hnew _) (by omega)) _ _ (by omega) ?_
  intro o1 nx1 hn1 hB1 hk1
  have k1 : QKeep t o nx o1 := (QKeep.new (hnew _)).trans hk1 (by omega)
  simp (disch := omega) only [go_sem, ↓IntWalk.iteOmega, IntWalk.toNatUp, Nat.reduceEqDiff, Nat.reduceAdd, Nat.reduceMul, Nat.reduceSub, Nat.reduceLT, Nat.reduceLeDiff, Int.reduceToNat, Int.reduceLT, Int.reduceLE, Int.reduceEq, Int.reduceAdd, Int.reduceSub, Int.reduceMul, Int.toNat_natCast, reduceCtorEq, decide_true, decide_false, IntWalk.i64_in, IntWalk.u64_in, IntWalk.u8_in]
  exact ⟨rfl, qto_fin hB1 k1 (by omega) (by omega)⟩
theorem lead_other (h : QAt o nx t b false) (hf : IAt 70 o nx vf (fstL p)) (ht : IAt 74 o nx vt (sndL p)) (k1 : kind ≠ 1) (k3 : kind ≠ 3) (k5 : kind ≠ 5) (k6 : kind ≠ 6) (k7 : kind ≠ 7) (k8 : kind ≠ 8) (k9 : kind ≠ 9) : ∃ v H', QLead [bp t, nodeV (.mk kind set lo hi l), .int .i64 s, .int .i64 e, vf, vt] ⟨o, nx⟩ v H' := by
  refine lead_of h hf ht fun cr hF hR => ?_
  have hnew : ∀ y, ∀ i j, i < nx → upd o (nx, 7) y (i, j) = o (i, j) := fun y i j hi => by simp (disch := omega) only [upd_fst]
  have e1 : leadB kind set lo s e p b = b := by rw [leadB, if_neg k1, if_neg k3, if_neg k5, if_neg k6, if_neg k7, if_neg k8, if_neg k9]
  rw [e1]
  simp only [Tryd.f53, Option.getD_some]
  simp (disch := omega) only [go_sem, ↓IntWalk.iteOmega, IntWalk.toNatUp, Nat.reduceEqDiff, Nat.reduceAdd, Nat.reduceMul, Nat.reduceSub, Nat.reduceLT, Nat.reduceLeDiff, Int.reduceToNat, Int.reduceLT, Int.reduceLE, Int.reduceEq, Int.reduceAdd, Int.reduceSub, Int.reduceMul, Int.toNat_natCast, reduceCtorEq, decide_true, decide_false, IntWalk.i64_in, IntWalk.u64_in, IntWalk.u8_in, hF, nzLead, k1, k3, k5, k6, k7, k8, k9]
  exact ⟨rfl, qto_fin (nx1 := nx + 1) (h.new (hnew _) (by omega)) (QKeep.new (hnew _)) (by omega) (by omega)⟩
theorem lead_rep (h : QAt o nx t b false) (hf : IAt 70 o nx vf (fstL p)) (ht : IAt 74 o nx vt (sndL p)) (hbf : b.f.length ≤ 800000) (hlen : p.length ≤ 10) (hlo : 0 ≤ lo ∧ lo ≤ 10) (hpi : 0 < hi ↔ 0 < p.length) (hk : kind = 9) : ∃ v H', QLead [bp t, nodeV (.mk kind set lo hi l), .int .i64 s, .int .i64 e, vf, vt] ⟨o, nx⟩ v H' := by
  refine lead_of h hf ht fun cr hF hR => ?_
  have hsl : ∀ y, ∀ i j, j ≠ 7 → upd o (nx, 7) y (i, j) = o (i, j) := fun y i j hj => by simp [upd_app, hj]
  have hnew : ∀ y, ∀ i j, i < nx → upd o (nx, 7) y (i, j) = o (i, j) := fun y i j hi => by simp (disch := omega) only [upd_fst]
  have e1 : leadB kind set lo s e p b = b.frees (repL lo s e p) := by rw [leadB, if_neg (by omega), if_neg (by omega), if_neg (by omega), if_neg (by omega), if_neg (by omega), if_neg (by omega), if_pos hk]
  rw [e1]
  subst hk
  simp only [Tryd.f53, Option.getD_some]
  have hcn : cNd (.mk 9 set lo hi l) = [.int .i64 9, .int .i64 set, .int .i64 lo, .int .i64 hi, slN l] := cNd_mk ..
  simp (disch := omega) only [go_sem, ↓IntWalk.iteOmega, IntWalk.toNatUp, Nat.reduceEqDiff, Nat.reduceAdd, Nat.reduceMul, Nat.reduceSub, Nat.reduceLT, Nat.reduceLeDiff, Int.reduceToNat, Int.reduceLT, Int.reduceLE, Int.reduceEq, Int.reduceAdd, Int.reduceSub, Int.reduceMul, Int.toNat_natCast, reduceCtorEq, decide_true, decide_false, IntWalk.i64_in, IntWalk.u64_in, IntWalk.u8_in, hR, nzLead]
  simp only [← hcn]
  refine cRel_call (qrep_ok (kind := 9) (set := set) (l := l) (s := s) (e := e) hlo hlen hpi (h.new (hnew _) (by omega)) (hf.slot (fun i => hsl _ i 70 (by decide)) (by omega)) (ht.slot (fun i => hsl _ i 74 (by decide)) (by omega)) (by omega)) fun v H' hr => ?_
  obtain ⟨rfl, h1, h2, h3⟩ := hr.2 t b 9 set lo hi l s e vf vt p rfl (hf.slot (fun i => hsl _ i 70 (by decide)) (by dsimp only; omega)) (ht.slot (fun i => hsl _ i 74 (by decide)) (by dsimp only; omega)) (h.new (hnew _) (by dsimp only; omega))
  obtain ⟨o1, nx1⟩ := H'
  dsimp only at h1 h2 h3
  have k1 : QKeep t o nx o1 := (QKeep.new (hnew _)).trans h3 (by omega)
  simp (disch := omega) only [go_sem, ↓IntWalk.iteOmega, IntWalk.toNatUp, Nat.reduceEqDiff, Nat.reduceAdd, Nat.reduceMul, Nat.reduceSub, Nat.reduceLT, Nat.reduceLeDiff, Int.reduceToNat, Int.reduceLT, Int.reduceLE, Int.reduceEq, Int.reduceAdd, Int.reduceSub, Int.reduceMul, Int.toNat_natCast, reduceCtorEq, decide_true, decide_false, IntWalk.i64_in, IntWalk.u64_in, IntWalk.u8_in]
  exact ⟨rfl, qto_fin h2 k1 (by omega) (by omega)⟩
theorem lead_once (h : QAt o nx t b false) (hf : IAt 70 o nx vf (fstL p)) (ht : IAt 74 o nx vt (sndL p)) (hbf : b.f.length ≤ 800000) (hlen : p.length = 1) (hk : kind = 6 ∨ kind = 7 ∨ kind = 8) : ∃ v H', QLead [bp t, nodeV (.mk kind set lo hi l), .int .i64 s, .int .i64 e, vf, vt] ⟨o, nx⟩ v H' := by
  refine lead_of h hf ht fun cr hF hR => ?_
  have hnew : ∀ y, ∀ i j, i < nx → upd o (nx, 7) y (i, j) = o (i, j) := fun y i j hi => by simp (disch := omega) only [upd_fst]
  have g0 := fst_get (p := p) (i := 0) (by omega)
  have g1' := snd_get (p := p) (i := 0) (by omega)
  rw [List.drop_zero] at g0 g1'
  have hz1 : (0 : Int) < (fstL p).length := by simp only [List.length_map]; omega
  have hz2 : (0 : Int) < (sndL p).length := by simp only [List.length_map]; omega
  rcases hf with ⟨_, e1, _⟩ | ⟨i1, g1, rfl, hi1, hrow1, hlen1⟩
  · simp only [List.length_map] at e1; omega
  rcases ht with ⟨_, e1, _⟩ | ⟨i2, g2, rfl, hi2, hrow2, hlen2⟩
  · simp only [List.length_map] at e1; omega
  have k0 : ∀ y, QKeep t o nx (upd o (nx, 7) y) := fun y => QKeep.new (hnew y)
  simp only [Tryd.f53, Option.getD_some]
  obtain ⟨q0, hq0⟩ : ∃ q0, q0 = p.getD 0 (0, 0) := ⟨_, rfl⟩
  have hL : leadB kind set lo s e p b = if kind = 6 then (((b.free s q0.1).free s e).free q0.2 q0.1).free q0.2 e else if kind = 7 then ((b.free s q0.1).free q0.2 q0.1).free q0.2 e else ((b.free s q0.1).free s e).free q0.2 e := by
    rw [hq0]
    unfold leadB
    rcases hk with rfl | rfl | rfl <;> simp [frees_cons, frees_nil]
  rw [hL]
  rw [← hq0] at g0 g1'
  rcases hk with rfl | rfl | rfl
  all_goals
    simp (disch := omega) only [go_sem, ↓IntWalk.iteOmega, IntWalk.toNatUp, Nat.reduceEqDiff, Nat.reduceAdd, Nat.reduceMul, Nat.reduceSub, Nat.reduceLT, Nat.reduceLeDiff, Int.reduceToNat, Int.reduceLT, Int.reduceLE, Int.reduceEq, Int.reduceAdd, Int.reduceSub, Int.reduceMul, Int.toNat_natCast, reduceCtorEq, decide_true, decide_false, IntWalk.i64_in, IntWalk.u64_in, IntWalk.u8_in, hF, nzLead, hrow1, hrow2, g0, g1', hz1, hz2]
    refine qfree_call (h.new (hnew _) (by omega)) _ _ (by omega) ?_
    intro o1 nx1 hle1 hB1 hk1
    have k1 : QKeep t o nx o1 := (QKeep.new (hnew _)).trans hk1 (by omega)
    have hr1 := k1.row hrow1 hi1 (fun e => absurd e (by decide)) (by decide) (by decide)
    have hr2 := k1.row hrow2 hi2 (fun e => absurd e (by decide)) (by decide) (by decide)
    clear hk1
    simp (disch := omega) only [go_sem, ↓IntWalk.iteOmega, IntWalk.toNatUp, Nat.reduceEqDiff, Nat.reduceAdd, Nat.reduceMul, Nat.reduceSub, Nat.reduceLT, Nat.reduceLeDiff, Int.reduceToNat, Int.reduceLT, Int.reduceLE, Int.reduceEq, Int.reduceAdd, Int.reduceSub, Int.reduceMul, Int.toNat_natCast, reduceCtorEq, decide_true, decide_false, IntWalk.i64_in, IntWalk.u64_in, IntWalk.u8_in, hF, nzLead, hr1, hr2, g0, g1', hz1, hz2]
    have hnn : nx ≤ nx1 := by omega
    repeat
      refine qfree_call (hB1.new (fun _ _ _ => rfl) (by omega)) _ _ (by simp only [BS.free_f, List.length_append, List.length_cons, List.length_nil]; omega) ?_
      clear hr1 hr2
      intro o1 nx1 hle2 hB2 hk1
      replace k1 : QKeep t o nx o1 := k1.trans (fun i j (hi : i < _) => hk1 i j (by omega)) (by omega)
      have hr1 := k1.row hrow1 hi1 (fun e => absurd e (by decide)) (by decide) (by decide)
      have hr2 := k1.row hrow2 hi2 (fun e => absurd e (by decide)) (by decide) (by decide)
      replace hB1 := hB2
      replace hnn : nx ≤ nx1 := by omega
      clear hk1 hB2
      simp (disch := omega) only [go_sem, ↓IntWalk.iteOmega, IntWalk.toNatUp, Nat.reduceEqDiff, Nat.reduceAdd, Nat.reduceMul, Nat.reduceSub, Nat.reduceLT, Nat.reduceLeDiff, Int.reduceToNat, Int.reduceLT, Int.reduceLE, Int.reduceEq, Int.reduceAdd, Int.reduceSub, Int.reduceMul, Int.toNat_natCast, reduceCtorEq, decide_true, decide_false, IntWalk.i64_in, IntWalk.u64_in, IntWalk.u8_in, hF, nzLead, hr1, hr2, g0, g1', hz1, hz2]
    exact ⟨rfl, qto_fin hB1 k1 (by omega) (by omega)⟩
theorem lead_set (h : QAt o nx t b false) (hf : IAt 70 o nx vf (fstL p)) (ht : IAt 74 o nx vt (sndL p)) (hbs : b.s.length ≤ 800000) (hk : kind = 1) : ∃ v H', QLead [bp t, nodeV (.mk kind set lo hi l), .int .i64 s, .int .i64 e, vf, vt] ⟨o, nx⟩ v H' := by
  refine lead_of h hf ht fun cr hF hR => ?_
  have hnew : ∀ y, ∀ i j, i < nx → upd o (nx, 7) y (i, j) = o (i, j) := fun y i j hi => by simp (disch := omega) only [upd_fst]
  have e1 : leadB kind set lo s e p b = b.step s e set := by rw [leadB, if_pos hk]
  rw [e1]
  subst hk
  simp only [Tryd.f53, Option.getD_some]
  obtain ⟨vS, vF, hB⟩ := h
  have r1 := hB.lt
  have r2 := hB.row
  have r3 := hB.s.ok
  have r4 := hB.f.ok
  have hff := hB.f
  have hb3 : (b.step s e set).s.length = b.s.length + 1 := by show List.length (_ ++ _) = _; rw [List.length_append]; rfl
  have hb5 : cS (b.step s e set).s = cS b.s ++ [.int .i64 s, .int .i64 e, .int .i64 set] := by show cS (_ ++ _) = _; rw [cS_app]; rfl
  have hb6 : (b.step s e set).f = b.f := rfl
  have key : ∀ (i k : Nat) (g : Tag) (x y z : AObj) (v : AV), i ≤ nx + k → z = .row ⟨69, 3, g, false, true, cS b.s ++ [.int .i64 s, .int .i64 e, .int .i64 set]⟩ → v = .ref (i, 29) g 0 (b.s.length + 1) → QTo t (b.step s e set) false ⟨o, nx⟩ ⟨upd (upd (upd (upd o (nx, 7) x) (nx + k, 28) y) (i, 29) z) (t, 8) (.row ⟨89, 1, (t, 8), false, true, [.int .i64 b.n, .int .i64 0, .int .i64 0, v, vF, .bool false]⟩), nx + k + 1⟩ := by
    intro i k g x y z v hi hz hv
    subst hz hv
    refine ⟨by show nx ≤ nx + k + 1; omega, ⟨_, vF, ⟨by show t < nx + k + 1; omega, upd_same _ _ _, .inr ⟨i, g, by rw [hb3], by show i < nx + k + 1; omega, ?_, ?_⟩, ?_⟩⟩, fun i' j' hi' a1 a2 a3 => ?_⟩
    · rw [hb5]; simp [upd_app]
    · rw [cS_length]
    · rw [hb6]; exact hff.keep (fun i' hi' => by simp [upd_app]) (by show nx ≤ nx + k + 1; omega)
    · have n1 : i' ≠ nx + k := by have : i' < nx := hi'; omega
      have n2 : i' ≠ nx := by have : i' < nx := hi'; omega
      by_cases hj : j' = 8
      · have := a1 hj
        simp [upd_app, n1, n2, hj, this]
      · simp [upd_app, n1, n2, hj, a2]
  rcases hB.s with ⟨rfl, q2, q3⟩ | ⟨i1, g1, rfl, hi1, hrow, hlen⟩
  · simp (disch := omega) only [go_sem, ↓IntWalk.iteOmega, IntWalk.toNatUp, Nat.reduceEqDiff, Nat.reduceAdd, Nat.reduceMul, Nat.reduceSub, Nat.reduceLT, Nat.reduceLeDiff, Int.reduceToNat, Int.reduceLT, Int.reduceLE, Int.reduceEq, Int.reduceAdd, Int.reduceSub, Int.reduceMul, Int.toNat_natCast, reduceCtorEq, decide_true, decide_false, IntWalk.i64_in, IntWalk.u64_in, IntWalk.u8_in, r2, r3, r4, nzLead]
    exact ⟨rfl, key (nx + 3) 3 (nx + 3, 29) _ _ _ _ (by omega) (by rw [q3]; rfl) (by rw [q2])⟩
  · simp (disch := omega) only [go_sem, ↓IntWalk.iteOmega, IntWalk.toNatUp, Nat.reduceEqDiff, Nat.reduceAdd, Nat.reduceMul, Nat.reduceSub, Nat.reduceLT, Nat.reduceLeDiff, Int.reduceToNat, Int.reduceLT, Int.reduceLE, Int.reduceEq, Int.reduceAdd, Int.reduceSub, Int.reduceMul, Int.toNat_natCast, reduceCtorEq, decide_true, decide_false, IntWalk.i64_in, IntWalk.u64_in, IntWalk.u8_in, r2, r3, r4, nzLead, hrow]
    exact ⟨rfl, key i1 3 (nx + 3, 29) _ _ _ _ (by omega) rfl rfl⟩
/-- lead, of any kind. -/
theorem lead_ok (h : QAt o nx t b false) (hf : IAt 70 o nx vf (fstL p)) (ht : IAt 74 o nx vt (sndL p)) (hbf : b.f.length ≤ 800000) (hbs : b.s.length ≤ 800000) (hlen : p.length ≤ 10) (h1 : kind = 6 ∨ kind = 7 ∨ kind = 8 → p.length = 1) (h9 : kind = 9 → (0 ≤ lo ∧ lo ≤ 10) ∧ (0 < hi ↔ 0 < p.length)) : ∃ v H', QLead [bp t, nodeV (.mk kind set lo hi l), .int .i64 s, .int .i64 e, vf, vt] ⟨o, nx⟩ v H' := by
  by_cases k1 : kind = 1
  · exact lead_set h hf ht hbs k1
  by_cases k3 : kind = 3
  · exact lead_none h hf ht hbf k3
  by_cases k5 : kind = 5
  · exact lead_union h hf ht hbf hlen k5
  by_cases k6 : kind = 6 ∨ kind = 7 ∨ kind = 8
  · exact lead_once h hf ht hbf (h1 k6) k6
  by_cases k9 : kind = 9
  · exact lead_rep h hf ht hbf hlen (h9 k9).1 (h9 k9).2 k9
  exact lead_other h hf ht k1 k3 k5 (fun h => k6 (.inl h)) (fun h => k6 (.inr (.inl h))) (fun h => k6 (.inr (.inr h))) k9
end
end Go.Proofs.YthhfjjnhkifbfaaDoor.A
/- The document's builder: the loops of part and join. -/
namespace Go.Proofs.YthhfjjnhkifbfaaDoor.A
open Go
set_option maxRecDepth 20000
structure QPre (b : BS) : Prop where
  f : b.f.length ≤ 4 * b.n
  s : b.s.length ≤ b.n
  n : b.n ≤ 1000
def QRes (r : (Int × Int) × BS) (t : Nat) (v : AV) (H H' : AH) : Prop := H.nx ≤ H'.nx ∧ QKeep t H.o H.nx H'.o ∧ ∃ s e, v = .tup [.int .i64 s, .int .i64 e] ∧ ((r.2.n ≤ 1000 ∧ (s, e) = r.1 ∧ QAt H'.o H'.nx t r.2 false) ∨ (1000 < r.2.n ∧ ∃ b', b'.n ≤ 1000 ∧ QAt H'.o H'.nx t b' true))
def QPart (args : List AV) (H : AH) (v : AV) (H' : AH) : Prop := OkR Tryd.prog 41 args H v H' ∧ ∀ t b x, args = [bp t, nodeV x] → QAt H.o H.nx t b false → QRes (bPart x b) t v H H'
def QJoin (args : List AV) (H : AH) (v : AV) (H' : AH) : Prop := OkR Tryd.prog 51 args H v H' ∧ ∀ t b set lo hi l, args = [bp t, nodeV (.mk 4 set lo hi l)] → QAt H.o H.nx t b false → QRes (bJoin (bPartL l) b) t v H H'
theorem qpart_call {x : Nd} {t : Nat} {o : Ob} {nx : Nat} {b : BS} {K : AV × AH → Prop} (hex : ∃ v H', QPart [bp t, nodeV x] ⟨o, nx⟩ v H') (h : QAt o nx t b false)
    (hK : ∀ s e o' nx', nx ≤ nx' → QKeep t o nx o' → ((bPart x b).2.n ≤ 1000 ∧ (s, e) = (bPart x b).1 ∧ QAt o' nx' t (bPart x b).2 false ∨ 1000 < (bPart x b).2.n ∧ ∃ b', b'.n ≤ 1000 ∧ QAt o' nx' t b' true) → K (.tup [.int .i64 s, .int .i64 e], ⟨o', nx'⟩)) :
    wO (Option.map (fun p => freezeR false p.1 p.2) (cRel QPart [bp t, nodeV x] ⟨o, nx⟩)) K := by
  refine cRel_call hex fun v H' hr => ?_
  obtain ⟨h1, h2, s, e, rfl, h3⟩ := hr.2 t b x rfl h
  exact hK s e H'.o H'.nx h1 h2 h3
theorem bParts_lo {ks : List Nd} (hk : okNs ks = true) (b : BS) (out : List (Int × Int)) : b.n ≤ (bParts (bPartL ks) b out).2.n := (parts_bd (bPartL ks) b out (parts_bd' ks hk)).lo
theorem okNs_drop {ks : List Nd} (hk : okNs ks = true) (i : Nat) : okNs (ks.drop i) = true := by
  induction i generalizing ks with
  | zero => exact hk
  | succ i ih =>
    cases ks with
    | nil => rw [List.drop_nil, okNs]
    | cons x l => rw [okNs, Bool.and_eq_true] at hk; exact ih hk.2
theorem qpre_part {x : Nd} (hk : okN x = true) {b : BS} (h : QPre b) (hn : (bPart x b).2.n ≤ 1000) : QPre (bPart x b).2 := by
  have hb := part_bd x hk b
  have := hb.f4; have := hb.s1; have := hb.lo; have := h.f; have := h.s
  exact ⟨by omega, by omega, hn⟩
/-- A row that is appended to. -/
theorem IAt.fresh {D : Nat} {o : Ob} {nx : Nat} {v : AV} {l : List Int} (h : IAt D o nx v l) : v = .nil ∧ l = [] ∨ ∃ i g, v = .ref (i, D) g 0 l.length ∧ i < nx ∧ o (i, D) = some (.row ⟨3, 1, g, false, true, cI l⟩) := by
  rcases h with ⟨rfl, e1, _⟩ | ⟨i, g, rfl, hi, hrow, hlen⟩
  · exact .inl ⟨rfl, List.length_eq_zero_iff.1 e1⟩
  · exact .inr ⟨i, g, rfl, hi, hrow⟩
theorem fstL_snoc (p : List (Int × Int)) (q : Int × Int) : fstL (p ++ [q]) = fstL p ++ [q.1] := by simp [fstL]
theorem sndL_snoc (p : List (Int × Int)) (q : Int × Int) : sndL (p ++ [q]) = sndL p ++ [q.2] := by simp [sndL]
/-- One more of each row. -/
theorem qpart_app {cr : CallR} {nx0 : Nat} {out : List (Int × Int)} {s e : Int} {vf vt : AV} {a : AAct} {o : Ob} {nx : Nat} {Q : WPost} (hlen : out.length ≤ 20) (hnx : nx0 ≤ nx) (h7 : a 7 = vf) (h8 : a 8 = vt) (h12 : a 12 = .int .i64 s) (h13 : a 13 = .int .i64 e) (hf : IAt 70 o nx vf (fstL out)) (ht : IAt 74 o nx vt (sndL out)) (hff : ∀ j g n, vf = .ref (j, 70) g 0 n → nx0 ≤ j) (htf : ∀ j g n, vt = .ref (j, 74) g 0 n → nx0 ≤ j)
    (hQ : ∀ a' o' nx' vf' vt', nx ≤ nx' → IAt 70 o' nx' vf' (fstL (out ++ [(s, e)])) → IAt 74 o' nx' vt' (sndL (out ++ [(s, e)])) → (∀ j g n, vf' = .ref (j, 70) g 0 n → nx0 ≤ j) → (∀ j g n, vt' = .ref (j, 74) g 0 n → nx0 ≤ j) → a' 7 = vf' → a' 8 = vt' → (∀ u, u ≠ 7 → u ≠ 8 → u < 67 → a' u = a u) → (∀ i j, i < nx0 ∨ (j ≠ 69 ∧ j ≠ 70 ∧ j ≠ 73 ∧ j ≠ 74) → o' (i, j) = o (i, j)) → Q .normal a' o' nx') :
    WP (EX md0 (fun _ _ => none)) cr 30 (fun _ => none) (pathC [1, 1, 1, 1, 1, 1, 1, 0, 1, 0, 0, 1, 0, 0, 1, 1, 1] (Tryd.f41.body.getD .skip)) a o nx Q := by
  simp only [Tryd.f41, Option.getD_some, pathC]
  have hl : (fstL out).length = out.length := List.length_map ..
  have hl' : (sndL out).length = out.length := List.length_map ..
  have ep : ∀ (f g : Nat) (y1 y2 y3 y4 : AObj), nx0 ≤ f → nx0 ≤ g → ∀ i j, i < nx0 ∨ (j ≠ 69 ∧ j ≠ 70 ∧ j ≠ 73 ∧ j ≠ 74) → upd (upd (upd (upd o (nx, 69) y1) (f, 70) y2) (nx, 73) y3) (g, 74) y4 (i, j) = o (i, j) := fun f g y1 y2 y3 y4 hf hg i j h => by
    rcases h with h | ⟨a1, a2, a3, a4⟩
    · have e1 : i ≠ nx := by omega
      have e2 : i ≠ f := by omega
      have e3 : i ≠ g := by omega
      simp [upd_app, e1, e2, e3]
    · simp [upd_app, a1, a2, a3, a4]
  have tk1 : (cI (fstL out)).take out.length = cI (fstL out) := take_len (by rw [cI_length, hl])
  have tk2 : (cI (sndL out)).take out.length = cI (sndL out) := take_len (by rw [cI_length, hl'])
  have p1 : fstL (out ++ [(s, e)]) = fstL out ++ [s] := fstL_snoc ..
  have p2 : sndL (out ++ [(s, e)]) = sndL out ++ [e] := sndL_snoc ..
  have c1 : cI (fstL out ++ [s]) = cI (fstL out) ++ [.int .i64 s] := by rw [cI_app]; rfl
  have c2 : cI (sndL out ++ [e]) = cI (sndL out) ++ [.int .i64 e] := by rw [cI_app]; rfl
  have fin : ∀ (a' : AAct) (f g : Nat) (gf gg : Tag) (y1 y2 y3 y4 : AObj) (vf' vt' : AV), nx0 ≤ f → nx0 ≤ g → f ≤ nx → g ≤ nx → vf' = .ref (f, 70) gf 0 (out.length + 1) → vt' = .ref (g, 74) gg 0 (out.length + 1) → y2 = .row ⟨3, 1, gf, false, true, cI (fstL out) ++ [.int .i64 s]⟩ → y4 = .row ⟨3, 1, gg, false, true, cI (sndL out) ++ [.int .i64 e]⟩ → a' 7 = vf' → a' 8 = vt' → (∀ u, u ≠ 7 → u ≠ 8 → u < 67 → a' u = a u) → Q .normal a' (upd (upd (upd (upd o (nx, 69) y1) (f, 70) y2) (nx, 73) y3) (g, 74) y4) (nx + 1) := by
    intro a' f g gf gg y1 y2 y3 y4 vf' vt' b1 b2 b3 b4 e1 e2 e3 e4 e5 e6 e7
    refine hQ a' _ _ vf' vt' (by omega) (.inr ⟨f, gf, ?_, by omega, ?_, ?_⟩) (.inr ⟨g, gg, ?_, by omega, ?_, ?_⟩) ?_ ?_ e5 e6 e7 (ep f g y1 y2 y3 y4 b1 b2)
    · rw [e1, p1, List.length_append, hl]; rfl
    · rw [p1, c1, ← e3]; simp [upd_app]
    · rw [cI_length]; omega
    · rw [e2, p2, List.length_append, hl']; rfl
    · rw [p2, c2, ← e4]; simp [upd_app]
    · rw [cI_length]; omega
    · intro j g' n h; rw [e1] at h; injection h with h; injection h with h; omega
    · intro j g' n h; rw [e2] at h; injection h with h; injection h with h; omega
  rcases hf.fresh with ⟨rfl, hn1⟩ | ⟨i1, g1, rfl, hi1, hrow1⟩
  · have hz : out.length = 0 := by rw [← hl, hn1]; rfl
    rcases ht.fresh with ⟨rfl, hn2⟩ | ⟨i2, g2, rfl, hi2, hrow2⟩
    · simp (disch := omega) only [go_sem, ↓IntWalk.iteOmega, IntWalk.toNatUp, Nat.reduceEqDiff, Nat.reduceAdd, Nat.reduceMul, Nat.reduceSub, Nat.reduceLT, Nat.reduceLeDiff, Int.reduceToNat, Int.reduceLT, Int.reduceLE, Int.reduceEq, Int.reduceAdd, Int.reduceSub, Int.reduceMul, Int.toNat_natCast, reduceCtorEq, decide_true, decide_false, IntWalk.i64_in, IntWalk.u64_in, IntWalk.u8_in, h7, h8, h12, h13]
      exact fin _ nx nx (nx, 70) (nx, 74) _ _ _ _ (.ref (nx, 70) (nx, 70) 0 1) (.ref (nx, 74) (nx, 74) 0 1) (by omega) (by omega) (by omega) (by omega) (by rw [hz]) (by rw [hz]) (by rw [hn1]; rfl) (by rw [hn2]; rfl) (by simp (disch := omega) only [go_sem, ↓IntWalk.iteOmega, IntWalk.toNatUp, Nat.reduceEqDiff, Nat.reduceAdd, Nat.reduceMul, Nat.reduceSub, Nat.reduceLT, Nat.reduceLeDiff, Int.reduceToNat, Int.reduceLT, Int.reduceLE, Int.reduceEq, Int.reduceAdd, Int.reduceSub, Int.reduceMul, Int.toNat_natCast, reduceCtorEq, decide_true, decide_false, IntWalk.i64_in, IntWalk.u64_in, IntWalk.u8_in]) (by simp (disch := omega) only [go_sem, ↓IntWalk.iteOmega, IntWalk.toNatUp, Nat.reduceEqDiff, Nat.reduceAdd, Nat.reduceMul, Nat.reduceSub, Nat.reduceLT, Nat.reduceLeDiff, Int.reduceToNat, Int.reduceLT, Int.reduceLE, Int.reduceEq, Int.reduceAdd, Int.reduceSub, Int.reduceMul, Int.toNat_natCast, reduceCtorEq, decide_true, decide_false, IntWalk.i64_in, IntWalk.u64_in, IntWalk.u8_in]) (fun u u1 u2 u3 => by simp (disch := omega) only [go_sem, ↓IntWalk.iteOmega, IntWalk.toNatUp, Nat.reduceEqDiff, Nat.reduceAdd, Nat.reduceMul, Nat.reduceSub, Nat.reduceLT, Nat.reduceLeDiff, Int.reduceToNat, Int.reduceLT, Int.reduceLE, Int.reduceEq, Int.reduceAdd, Int.reduceSub, Int.reduceMul, Int.toNat_natCast, reduceCtorEq, decide_true, decide_false, IntWalk.i64_in, IntWalk.u64_in, IntWalk.u8_in, u1, u2])
    · have hj := htf _ _ _ rfl
      rw [hl'] at h8
      simp (disch := omega) only [go_sem, ↓IntWalk.iteOmega, IntWalk.toNatUp, Nat.reduceEqDiff, Nat.reduceAdd, Nat.reduceMul, Nat.reduceSub, Nat.reduceLT, Nat.reduceLeDiff, Int.reduceToNat, Int.reduceLT, Int.reduceLE, Int.reduceEq, Int.reduceAdd, Int.reduceSub, Int.reduceMul, Int.toNat_natCast, reduceCtorEq, decide_true, decide_false, IntWalk.i64_in, IntWalk.u64_in, IntWalk.u8_in, h7, h8, h12, h13, hrow2, hl', tk1, tk2]
      exact fin _ nx i2 (nx, 70) (nx, 74) _ _ _ _ (.ref (nx, 70) (nx, 70) 0 1) (.ref (i2, 74) (nx, 74) 0 (out.length + 1)) (by omega) (by omega) (by omega) (by omega) (by rw [hz]) rfl (by rw [hn1]; rfl) rfl (by simp (disch := omega) only [go_sem, ↓IntWalk.iteOmega, IntWalk.toNatUp, Nat.reduceEqDiff, Nat.reduceAdd, Nat.reduceMul, Nat.reduceSub, Nat.reduceLT, Nat.reduceLeDiff, Int.reduceToNat, Int.reduceLT, Int.reduceLE, Int.reduceEq, Int.reduceAdd, Int.reduceSub, Int.reduceMul, Int.toNat_natCast, reduceCtorEq, decide_true, decide_false, IntWalk.i64_in, IntWalk.u64_in, IntWalk.u8_in]) (by simp (disch := omega) only [go_sem, ↓IntWalk.iteOmega, IntWalk.toNatUp, Nat.reduceEqDiff, Nat.reduceAdd, Nat.reduceMul, Nat.reduceSub, Nat.reduceLT, Nat.reduceLeDiff, Int.reduceToNat, Int.reduceLT, Int.reduceLE, Int.reduceEq, Int.reduceAdd, Int.reduceSub, Int.reduceMul, Int.toNat_natCast, reduceCtorEq, decide_true, decide_false, IntWalk.i64_in, IntWalk.u64_in, IntWalk.u8_in]) (fun u u1 u2 u3 => by simp (disch := omega) only [go_sem, ↓IntWalk.iteOmega, IntWalk.toNatUp, Nat.reduceEqDiff, Nat.reduceAdd, Nat.reduceMul, Nat.reduceSub, Nat.reduceLT, Nat.reduceLeDiff, Int.reduceToNat, Int.reduceLT, Int.reduceLE, Int.reduceEq, Int.reduceAdd, Int.reduceSub, Int.reduceMul, Int.toNat_natCast, reduceCtorEq, decide_true, decide_false, IntWalk.i64_in, IntWalk.u64_in, IntWalk.u8_in, u1, u2])
  · have hj1 := hff _ _ _ rfl
    rw [hl] at h7
    rcases ht.fresh with ⟨rfl, hn2⟩ | ⟨i2, g2, rfl, hi2, hrow2⟩
    · have hz : out.length = 0 := by rw [← hl', hn2]; rfl
      simp (disch := omega) only [go_sem, ↓IntWalk.iteOmega, IntWalk.toNatUp, Nat.reduceEqDiff, Nat.reduceAdd, Nat.reduceMul, Nat.reduceSub, Nat.reduceLT, Nat.reduceLeDiff, Int.reduceToNat, Int.reduceLT, Int.reduceLE, Int.reduceEq, Int.reduceAdd, Int.reduceSub, Int.reduceMul, Int.toNat_natCast, reduceCtorEq, decide_true, decide_false, IntWalk.i64_in, IntWalk.u64_in, IntWalk.u8_in, h7, h8, h12, h13, hrow1, hl, tk1, tk2]
      exact fin _ i1 nx (nx, 70) (nx, 74) _ _ _ _ (.ref (i1, 70) (nx, 70) 0 (out.length + 1)) (.ref (nx, 74) (nx, 74) 0 1) (by omega) (by omega) (by omega) (by omega) rfl (by rw [hz]) rfl (by rw [hn2]; rfl) (by simp (disch := omega) only [go_sem, ↓IntWalk.iteOmega, IntWalk.toNatUp, Nat.reduceEqDiff, Nat.reduceAdd, Nat.reduceMul, Nat.reduceSub, Nat.reduceLT, Nat.reduceLeDiff, Int.reduceToNat, Int.reduceLT, Int.reduceLE, Int.reduceEq, Int.reduceAdd, Int.reduceSub, Int.reduceMul, Int.toNat_natCast, reduceCtorEq, decide_true, decide_false, IntWalk.i64_in, IntWalk.u64_in, IntWalk.u8_in]) (by simp (disch := omega) only [go_sem, ↓IntWalk.iteOmega, IntWalk.toNatUp, Nat.reduceEqDiff, Nat.reduceAdd, Nat.reduceMul, Nat.reduceSub, Nat.reduceLT, Nat.reduceLeDiff, Int.reduceToNat, Int.reduceLT, Int.reduceLE, Int.reduceEq, Int.reduceAdd, Int.reduceSub, Int.reduceMul, Int.toNat_natCast, reduceCtorEq, decide_true, decide_false, IntWalk.i64_in, IntWalk.u64_in, IntWalk.u8_in]) (fun u u1 u2 u3 => by simp (disch := omega) only [go_sem, ↓IntWalk.iteOmega, IntWalk.toNatUp, Nat.reduceEqDiff, Nat.reduceAdd, Nat.reduceMul, Nat.reduceSub, Nat.reduceLT, Nat.reduceLeDiff, Int.reduceToNat, Int.reduceLT, Int.reduceLE, Int.reduceEq, Int.reduceAdd, Int.reduceSub, Int.reduceMul, Int.toNat_natCast, reduceCtorEq, decide_true, decide_false, IntWalk.i64_in, IntWalk.u64_in, IntWalk.u8_in, u1, u2])
    · have hj := htf _ _ _ rfl
      rw [hl'] at h8
      simp (disch := omega) only [go_sem, ↓IntWalk.iteOmega, IntWalk.toNatUp, Nat.reduceEqDiff, Nat.reduceAdd, Nat.reduceMul, Nat.reduceSub, Nat.reduceLT, Nat.reduceLeDiff, Int.reduceToNat, Int.reduceLT, Int.reduceLE, Int.reduceEq, Int.reduceAdd, Int.reduceSub, Int.reduceMul, Int.toNat_natCast, reduceCtorEq, decide_true, decide_false, IntWalk.i64_in, IntWalk.u64_in, IntWalk.u8_in, h7, h8, h12, h13, hrow1, hrow2, hl, hl', tk1, tk2]
      exact fin _ i1 i2 (nx, 70) (nx, 74) _ _ _ _ (.ref (i1, 70) (nx, 70) 0 (out.length + 1)) (.ref (i2, 74) (nx, 74) 0 (out.length + 1)) (by omega) (by omega) (by omega) (by omega) rfl rfl rfl rfl (by simp (disch := omega) only [go_sem, ↓IntWalk.iteOmega, IntWalk.toNatUp, Nat.reduceEqDiff, Nat.reduceAdd, Nat.reduceMul, Nat.reduceSub, Nat.reduceLT, Nat.reduceLeDiff, Int.reduceToNat, Int.reduceLT, Int.reduceLE, Int.reduceEq, Int.reduceAdd, Int.reduceSub, Int.reduceMul, Int.toNat_natCast, reduceCtorEq, decide_true, decide_false, IntWalk.i64_in, IntWalk.u64_in, IntWalk.u8_in]) (by simp (disch := omega) only [go_sem, ↓IntWalk.iteOmega, IntWalk.toNatUp, Nat.reduceEqDiff, Nat.reduceAdd, Nat.reduceMul, Nat.reduceSub, Nat.reduceLT, Nat.reduceLeDiff, Int.reduceToNat, Int.reduceLT, Int.reduceLE, Int.reduceEq, Int.reduceAdd, Int.reduceSub, Int.reduceMul, Int.toNat_natCast, reduceCtorEq, decide_true, decide_false, IntWalk.i64_in, IntWalk.u64_in, IntWalk.u8_in]) (fun u u1 u2 u3 => by simp (disch := omega) only [go_sem, ↓IntWalk.iteOmega, IntWalk.toNatUp, Nat.reduceEqDiff, Nat.reduceAdd, Nat.reduceMul, Nat.reduceSub, Nat.reduceLT, Nat.reduceLeDiff, Int.reduceToNat, Int.reduceLT, Int.reduceLE, Int.reduceEq, Int.reduceAdd, Int.reduceSub, Int.reduceMul, Int.toNat_natCast, reduceCtorEq, decide_true, decide_false, IntWalk.i64_in, IntWalk.u64_in, IntWalk.u8_in, u1, u2])
theorem qpart_loop {kind set lo hi : Int} {l ks : List Nd} (hk : okNs ks = true) (hlen : ks.length ≤ 10) (hks : ∀ i, i < ks.length → 0 < l.length ∧ (kind = 5 → i < l.length ∧ ks.getD i default = l.getD i default) ∧ (kind ≠ 5 → ks.getD i default = l.getD 0 default)) (hpart : ∀ x ∈ ks, ∀ t o nx b, QAt o nx t b false → QPre b → ∃ v H', QPart [bp t, nodeV x] ⟨o, nx⟩ v H') {cr : CallR} (hP : cr 41 = cRel QPart)
    {t r : Nat} {s : Int} {o0 : Ob} {nx0 : Nat} {b0 : BS} {a : AAct} {o : Ob} {nx : Nat} {Q : WPost} (hr : nx0 ≤ r) (hrn : r < nx) (hnx : nx0 ≤ nx) (hst : QAt o nx t b0 false ∧ QPre b0 ∨ ∃ b', b'.n ≤ 1000 ∧ QAt o nx t b' true ∧ 1000 < (bParts (bPartL ks) b0 []).2.n) (ho3 : o (r, 3) = some (.row ⟨54, 1, (r, 3), false, true, [.int .i64 kind, .int .i64 set, .int .i64 lo, .int .i64 hi, slN l]⟩)) (h3 : a 3 = .ptr (r, 3) (r, 3) 0) (h7 : a 7 = .nil) (h8 : a 8 = .nil) (h9 : a 9 = .int .i64 ks.length) (h10 : a 10 = .int .i64 0) (h0 : a 0 = bp t) (h6 : a 6 = .int .i64 s) (hkp : QKeep t o0 nx0 o)
    (hQ1 : ∀ a o nx b out vf vt, nx0 ≤ nx → r < nx → QAt o nx t b false → QPre b → bParts (bPartL ks) b0 [] = (out, b) → out.length = ks.length → IAt 70 o nx vf (fstL out) → IAt 74 o nx vt (sndL out) → o (r, 3) = some (.row ⟨54, 1, (r, 3), false, true, [.int .i64 kind, .int .i64 set, .int .i64 lo, .int .i64 hi, slN l]⟩) → a 3 = .ptr (r, 3) (r, 3) 0 → a 7 = vf → a 8 = vt → a 0 = bp t → a 6 = .int .i64 s → QKeep t o0 nx0 o → Q .normal a o nx)
    (hQ2 : ∀ a o nx b', nx0 ≤ nx → QAt o nx t b' true → b'.n ≤ 1000 → 1000 < (bParts (bPartL ks) b0 []).2.n → a 0 = bp t → a 6 = .int .i64 s → QKeep t o0 nx0 o → Q .normal a o nx) :
    WP (EX md0 (fun _ _ => none)) cr 30 (fun _ => none) (pathC [1, 1, 1, 1, 1, 1, 1, 0, 1, 0] (Tryd.f41.body.getD .skip)) a o nx (blockQ 0 Q) := by
  simp only [Tryd.f41, Option.getD_some, pathC]
  refine WP_loop (fun m a o nx => ∃ (i : Nat) (vf vt : AV), i ≤ ks.length ∧ m = ks.length - i ∧ nx0 ≤ nx ∧ r < nx ∧ a 7 = vf ∧ a 8 = vt ∧ ((∃ b out, QAt o nx t b false ∧ QPre b ∧ bParts (bPartL ks) b0 [] = bParts (bPartL (ks.drop i)) b out ∧ out.length = i ∧ IAt 70 o nx vf (fstL out) ∧ IAt 74 o nx vt (sndL out) ∧ (∀ j g n, vf = .ref (j, 70) g 0 n → nx0 ≤ j) ∧ (∀ j g n, vt = .ref (j, 74) g 0 n → nx0 ≤ j)) ∨ ∃ b', b'.n ≤ 1000 ∧ QAt o nx t b' true ∧ 1000 < (bParts (bPartL ks) b0 []).2.n) ∧ o (r, 3) = some (.row ⟨54, 1, (r, 3), false, true, [.int .i64 kind, .int .i64 set, .int .i64 lo, .int .i64 hi, slN l]⟩) ∧ a 3 = .ptr (r, 3) (r, 3) 0 ∧ a 9 = .int .i64 ks.length ∧ a 10 = .int .i64 i ∧ a 0 = bp t ∧ a 6 = .int .i64 s ∧ QKeep t o0 nx0 o) ks.length (by omega) ⟨0, .nil, .nil, by omega, by omega, hnx, hrn, h7, h8, ?_, ho3, h3, h9, h10, h0, h6, hkp⟩ ?_
  · rcases hst with ⟨h1, h2⟩ | h
    · exact .inl ⟨b0, [], h1, h2, rfl, rfl, HS.nil, HS.nil, fun j g n h => (by cases h), fun j g n h => (by cases h)⟩
    · exact .inr h
  clear hst ho3 h3 h7 h8 h9 h10 h0 h6 hkp hnx hrn
  rintro m a o nx ⟨i, vf, vt, hi, rfl, hnx, hrn, h7, h8, hst, ho3, h3, h9, h10, h0, h6, hkp⟩
  rcases hst with ⟨b, out, hB, hpre, hbp, hout, hf, ht, hff, htf⟩ | ⟨b', hn', hB', hmuch⟩
  · have hB' := hB
    obtain ⟨vS, vF, hR⟩ := hB'
    have hrow := hR.row
    have htn := hR.lt
    by_cases hlt : i < ks.length
    · obtain ⟨q1, q2, q3⟩ := hks i hlt
      have hmem := nd_mem hlt
      have hx := okNs_get hk hlt
      have hdrop := bPartL_drop hlt
      obtain ⟨x, hxe⟩ : ∃ x, x = ks.getD i default := ⟨_, rfl⟩
      rw [← hxe] at hmem hx hdrop q2 q3
      rw [hdrop, bParts_cons, if_neg (by have := hpre.n; omega)] at hbp
      have hat0 : (cNds l).take 5 = cNd (l.getD 0 default) := by
        have := cNds_at q1
        rw [Nat.zero_mul, List.drop_zero] at this
        rw [this, cNd_take']
      have hl0 : (0 : Int) < l.length := by omega
      have hsl : ∀ y z i' j', j' ≠ 11 → upd (upd o (nx + 1, 11) y) (nx + 1, 11) z (i', j') = o (i', j') := fun y z i' j' h => by simp [upd_app, h]
      have hsn : ∀ y z i' j', i' < nx → upd (upd o (nx + 1, 11) y) (nx + 1, 11) z (i', j') = o (i', j') := fun y z i' j' h => by
        have : i' ≠ nx + 1 := by omega
        simp [upd_app, this]
      have hsl3 : ∀ x y z i' j', j' ≠ 11 → upd (upd (upd o (nx + 1, 11) x) (nx + 1, 11) y) (nx + 1, 11) z (i', j') = o (i', j') := fun x y z i' j' h => by simp [upd_app, h]
      have hsn3 : ∀ x y z i' j', i' < nx → upd (upd (upd o (nx + 1, 11) x) (nx + 1, 11) y) (nx + 1, 11) z (i', j') = o (i', j') := fun x y z i' j' h => by
        have : i' ≠ nx + 1 := by omega
        simp [upd_app, this]
      obtain ⟨c17, h17⟩ : ∃ c, c = pathC [1, 1, 1, 1, 1, 1, 1, 0, 1, 0, 0, 1, 0, 0, 1, 1, 1] (Tryd.f41.body.getD .skip) := ⟨_, rfl⟩
      have h17' := h17
      simp only [Tryd.f41, Option.getD_some, pathC] at h17'
      rw [← h17']
      clear h17'
      by_cases h5 : kind = 5
      · obtain ⟨q4, q5⟩ := q2 h5
        have hat := cNds_at q4
        rw [← q5] at hat
        simp (disch := omega) only [go_sem, ↓IntWalk.iteOmega, IntWalk.toNatUp, Nat.reduceEqDiff, Nat.reduceAdd, Nat.reduceMul, Nat.reduceSub, Nat.reduceLT, Nat.reduceLeDiff, Int.reduceToNat, Int.reduceLT, Int.reduceLE, Int.reduceEq, Int.reduceAdd, Int.reduceSub, Int.reduceMul, Int.toNat_natCast, reduceCtorEq, decide_true, decide_false, IntWalk.i64_in, IntWalk.u64_in, IntWalk.u8_in, h0, h3, h6, h7, h8, h9, h10, hrow, ho3, hat, hat0, hl0, hP, h5]
        refine qpart_call (hpart x hmem t _ _ b (hB.slot (fun i' j' hj' => hsl3 _ _ _ i' j' (by omega)) (by omega)) hpre) (hB.slot (fun i' j' hj' => hsl3 _ _ _ i' j' (by omega)) (by omega)) ?_
        intro s' e' o1 nx1 hle1 hk1 hres
        have k1 : QKeep t o nx o1 := (QKeep.new (hsn3 _ _ _)).trans hk1 (by omega)
        have hf1 := hf.keep (nx' := nx1) k1 (by decide) (by decide) (by decide) (by omega)
        have ht1 := ht.keep (nx' := nx1) k1 (by decide) (by decide) (by decide) (by omega)
        clear hk1
        simp (disch := omega) only [go_sem, ↓IntWalk.iteOmega, IntWalk.toNatUp, Nat.reduceEqDiff, Nat.reduceAdd, Nat.reduceMul, Nat.reduceSub, Nat.reduceLT, Nat.reduceLeDiff, Int.reduceToNat, Int.reduceLT, Int.reduceLE, Int.reduceEq, Int.reduceAdd, Int.reduceSub, Int.reduceMul, Int.toNat_natCast, reduceCtorEq, decide_true, decide_false, IntWalk.i64_in, IntWalk.u64_in, IntWalk.u8_in, h0, h3, h6, h7, h8, h9, h10]
        rw [h17]
        refine qpart_app (nx0 := nx0) (out := out) (s := s') (e := e') (by omega) (by omega) (by simp (disch := omega) only [go_sem, ↓IntWalk.iteOmega, IntWalk.toNatUp, Nat.reduceEqDiff, Nat.reduceAdd, Nat.reduceMul, Nat.reduceSub, Nat.reduceLT, Nat.reduceLeDiff, Int.reduceToNat, Int.reduceLT, Int.reduceLE, Int.reduceEq, Int.reduceAdd, Int.reduceSub, Int.reduceMul, Int.toNat_natCast, reduceCtorEq, decide_true, decide_false, IntWalk.i64_in, IntWalk.u64_in, IntWalk.u8_in, h7]) (by simp (disch := omega) only [go_sem, ↓IntWalk.iteOmega, IntWalk.toNatUp, Nat.reduceEqDiff, Nat.reduceAdd, Nat.reduceMul, Nat.reduceSub, Nat.reduceLT, Nat.reduceLeDiff, Int.reduceToNat, Int.reduceLT, Int.reduceLE, Int.reduceEq, Int.reduceAdd, Int.reduceSub, Int.reduceMul, Int.toNat_natCast, reduceCtorEq, decide_true, decide_false, IntWalk.i64_in, IntWalk.u64_in, IntWalk.u8_in, h8]) (by simp (disch := omega) only [go_sem, ↓IntWalk.iteOmega, IntWalk.toNatUp, Nat.reduceEqDiff, Nat.reduceAdd, Nat.reduceMul, Nat.reduceSub, Nat.reduceLT, Nat.reduceLeDiff, Int.reduceToNat, Int.reduceLT, Int.reduceLE, Int.reduceEq, Int.reduceAdd, Int.reduceSub, Int.reduceMul, Int.toNat_natCast, reduceCtorEq, decide_true, decide_false, IntWalk.i64_in, IntWalk.u64_in, IntWalk.u8_in]) (by simp (disch := omega) only [go_sem, ↓IntWalk.iteOmega, IntWalk.toNatUp, Nat.reduceEqDiff, Nat.reduceAdd, Nat.reduceMul, Nat.reduceSub, Nat.reduceLT, Nat.reduceLeDiff, Int.reduceToNat, Int.reduceLT, Int.reduceLE, Int.reduceEq, Int.reduceAdd, Int.reduceSub, Int.reduceMul, Int.toNat_natCast, reduceCtorEq, decide_true, decide_false, IntWalk.i64_in, IntWalk.u64_in, IntWalk.u8_in]) (hf1.slot (fun _ => rfl) (by omega)) (ht1.slot (fun _ => rfl) (by omega)) hff htf ?_
        intro a' o2 nx2 vf' vt' hle2 hf2 ht2 hff2 htf2 ha7 ha8 hau ho2
        have ga0 := hau 0 (by decide) (by decide) (by decide)
        have ga3 := hau 3 (by decide) (by decide) (by decide)
        have ga6 := hau 6 (by decide) (by decide) (by decide)
        have ga9 := hau 9 (by decide) (by decide) (by decide)
        have ga10 := hau 10 (by decide) (by decide) (by decide)
        clear hau
        simp only [put_app, Nat.reduceEqDiff, if_true, if_false, h0, h3, h6, h9, h10] at ga0 ga3 ga6 ga9 ga10
        clear h0 h3 h6 h7 h8 h9 h10 h17
        simp (disch := omega) only [go_sem, ↓IntWalk.iteOmega, IntWalk.toNatUp, Nat.reduceEqDiff, Nat.reduceAdd, Nat.reduceMul, Nat.reduceSub, Nat.reduceLT, Nat.reduceLeDiff, Int.reduceToNat, Int.reduceLT, Int.reduceLE, Int.reduceEq, Int.reduceAdd, Int.reduceSub, Int.reduceMul, Int.toNat_natCast, reduceCtorEq, decide_true, decide_false, IntWalk.i64_in, IntWalk.u64_in, IntWalk.u8_in, ga0, ga3, ga6, ga9, ga10, ha7, ha8]
        have k2 : QKeep t o0 nx0 o2 := (hkp.trans k1 hnx).trans (fun i' j' hi' _ _ _ => ho2 i' j' (.inl hi')) (by omega)
        have ho32 := (ho2 r 3 (.inr (by decide))).trans (k1.row ho3 hrn (fun e => absurd e (by decide)) (by decide) (by decide))
        have hqs : ∀ b m, QAt o1 nx1 t b m → QAt o2 (nx2 + 1) t b m := fun b m h => h.slot (fun i' j' hj' => ho2 i' j' (.inr (by omega))) (by omega)
        refine ⟨_, ?_, i + 1, vf', vt', by omega, rfl, by omega, by omega, rfl, rfl, ?_, (by rw [h5] at ho32; exact ho32), rfl, k2⟩
        · omega
        · rcases hres with ⟨u1, u2, u3⟩ | ⟨u1, b', u2, u3⟩
          · refine .inl ⟨_, out ++ [(s', e')], hqs _ _ u3, qpre_part hx.1 hpre u1, by rw [hbp, u2], by simp [hout], hf2.slot (fun _ => rfl) (by omega), ht2.slot (fun _ => rfl) (by omega), hff2, htf2⟩
          · refine .inr ⟨b', u2, hqs _ _ u3, ?_⟩
            rw [hbp]
            exact Nat.lt_of_lt_of_le u1 (bParts_lo (okNs_drop hk _) _ _)
      · have q5 := q3 h5
        rw [← q5] at hat0
        simp (disch := omega) only [go_sem, ↓IntWalk.iteOmega, IntWalk.toNatUp, Nat.reduceEqDiff, Nat.reduceAdd, Nat.reduceMul, Nat.reduceSub, Nat.reduceLT, Nat.reduceLeDiff, Int.reduceToNat, Int.reduceLT, Int.reduceLE, Int.reduceEq, Int.reduceAdd, Int.reduceSub, Int.reduceMul, Int.toNat_natCast, reduceCtorEq, decide_true, decide_false, IntWalk.i64_in, IntWalk.u64_in, IntWalk.u8_in, h0, h3, h6, h7, h8, h9, h10, hrow, ho3, hat0, hl0, hP, h5]
        refine qpart_call (hpart x hmem t _ _ b (hB.slot (fun i' j' hj' => hsl _ _ i' j' (by omega)) (by omega)) hpre) (hB.slot (fun i' j' hj' => hsl _ _ i' j' (by omega)) (by omega)) ?_
        intro s' e' o1 nx1 hle1 hk1 hres
        have k1 : QKeep t o nx o1 := (QKeep.new (hsn _ _)).trans hk1 (by omega)
        have hf1 := hf.keep (nx' := nx1) k1 (by decide) (by decide) (by decide) (by omega)
        have ht1 := ht.keep (nx' := nx1) k1 (by decide) (by decide) (by decide) (by omega)
        clear hk1
        simp (disch := omega) only [go_sem, ↓IntWalk.iteOmega, IntWalk.toNatUp, Nat.reduceEqDiff, Nat.reduceAdd, Nat.reduceMul, Nat.reduceSub, Nat.reduceLT, Nat.reduceLeDiff, Int.reduceToNat, Int.reduceLT, Int.reduceLE, Int.reduceEq, Int.reduceAdd, Int.reduceSub, Int.reduceMul, Int.toNat_natCast, reduceCtorEq, decide_true, decide_false, IntWalk.i64_in, IntWalk.u64_in, IntWalk.u8_in, h0, h3, h6, h7, h8, h9, h10]
        rw [h17]
        refine qpart_app (nx0 := nx0) (out := out) (s := s') (e := e') (by omega) (by omega) (by simp (disch := omega) only [go_sem, ↓IntWalk.iteOmega, IntWalk.toNatUp, Nat.reduceEqDiff, Nat.reduceAdd, Nat.reduceMul, Nat.reduceSub, Nat.reduceLT, Nat.reduceLeDiff, Int.reduceToNat, Int.reduceLT, Int.reduceLE, Int.reduceEq, Int.reduceAdd, Int.reduceSub, Int.reduceMul, Int.toNat_natCast, reduceCtorEq, decide_true, decide_false, IntWalk.i64_in, IntWalk.u64_in, IntWalk.u8_in, h7]) (by simp (disch := omega) only [go_sem, ↓IntWalk.iteOmega, IntWalk.toNatUp, Nat.reduceEqDiff, Nat.reduceAdd, Nat.reduceMul, Nat.reduceSub, Nat.reduceLT, Nat.reduceLeDiff, Int.reduceToNat, Int.reduceLT, Int.reduceLE, Int.reduceEq, Int.reduceAdd, Int.reduceSub, Int.reduceMul, Int.toNat_natCast, reduceCtorEq, decide_true, decide_false, IntWalk.i64_in, IntWalk.u64_in, IntWalk.u8_in, h8]) (by simp (disch := omega) only [go_sem, ↓IntWalk.iteOmega, IntWalk.toNatUp, Nat.reduceEqDiff, Nat.reduceAdd, Nat.reduceMul, Nat.reduceSub, Nat.reduceLT, Nat.reduceLeDiff, Int.reduceToNat, Int.reduceLT, Int.reduceLE, Int.reduceEq, Int.reduceAdd, Int.reduceSub, Int.reduceMul, Int.toNat_natCast, reduceCtorEq, decide_true, decide_false, IntWalk.i64_in, IntWalk.u64_in, IntWalk.u8_in]) (by simp (disch := omega) only [go_sem, ↓IntWalk.iteOmega, IntWalk.toNatUp, Nat.reduceEqDiff, Nat.reduceAdd, Nat.reduceMul, Nat.reduceSub, Nat.reduceLT, Nat.reduceLeDiff, Int.reduceToNat, Int.reduceLT, Int.reduceLE, Int.reduceEq, Int.reduceAdd, Int.reduceSub, Int.reduceMul, Int.toNat_natCast, reduceCtorEq, decide_true, decide_false, IntWalk.i64_in, IntWalk.u64_in, IntWalk.u8_in]) (hf1.slot (fun _ => rfl) (by omega)) (ht1.slot (fun _ => rfl) (by omega)) hff htf ?_
        intro a' o2 nx2 vf' vt' hle2 hf2 ht2 hff2 htf2 ha7 ha8 hau ho2
        have ga0 := hau 0 (by decide) (by decide) (by decide)
        have ga3 := hau 3 (by decide) (by decide) (by decide)
        have ga6 := hau 6 (by decide) (by decide) (by decide)
        have ga9 := hau 9 (by decide) (by decide) (by decide)
        have ga10 := hau 10 (by decide) (by decide) (by decide)
        clear hau
        simp only [put_app, Nat.reduceEqDiff, if_true, if_false, h0, h3, h6, h9, h10] at ga0 ga3 ga6 ga9 ga10
        clear h0 h3 h6 h7 h8 h9 h10 h17
        simp (disch := omega) only [go_sem, ↓IntWalk.iteOmega, IntWalk.toNatUp, Nat.reduceEqDiff, Nat.reduceAdd, Nat.reduceMul, Nat.reduceSub, Nat.reduceLT, Nat.reduceLeDiff, Int.reduceToNat, Int.reduceLT, Int.reduceLE, Int.reduceEq, Int.reduceAdd, Int.reduceSub, Int.reduceMul, Int.toNat_natCast, reduceCtorEq, decide_true, decide_false, IntWalk.i64_in, IntWalk.u64_in, IntWalk.u8_in, ga0, ga3, ga6, ga9, ga10, ha7, ha8]
        have k2 : QKeep t o0 nx0 o2 := (hkp.trans k1 hnx).trans (fun i' j' hi' _ _ _ => ho2 i' j' (.inl hi')) (by omega)
        have ho32 := (ho2 r 3 (.inr (by decide))).trans (k1.row ho3 hrn (fun e => absurd e (by decide)) (by decide) (by decide))
        have hqs : ∀ b m, QAt o1 nx1 t b m → QAt o2 (nx2 + 1) t b m := fun b m h => h.slot (fun i' j' hj' => ho2 i' j' (.inr (by omega))) (by omega)
        refine ⟨_, ?_, i + 1, vf', vt', by omega, rfl, by omega, by omega, rfl, rfl, ?_, ho32, rfl, k2⟩
        · omega
        · rcases hres with ⟨u1, u2, u3⟩ | ⟨u1, b', u2, u3⟩
          · refine .inl ⟨_, out ++ [(s', e')], hqs _ _ u3, qpre_part hx.1 hpre u1, by rw [hbp, u2], by simp [hout], hf2.slot (fun _ => rfl) (by omega), ht2.slot (fun _ => rfl) (by omega), hff2, htf2⟩
          · refine .inr ⟨b', u2, hqs _ _ u3, ?_⟩
            rw [hbp]
            exact Nat.lt_of_lt_of_le u1 (bParts_lo (okNs_drop hk _) _ _)
    · have hdr : ks.drop i = [] := List.drop_of_length_le (by omega)
      rw [hdr, bPartL, bParts] at hbp
      simp (disch := omega) only [go_sem, ↓IntWalk.iteOmega, IntWalk.toNatUp, Nat.reduceEqDiff, Nat.reduceAdd, Nat.reduceMul, Nat.reduceSub, Nat.reduceLT, Nat.reduceLeDiff, Int.reduceToNat, Int.reduceLT, Int.reduceLE, Int.reduceEq, Int.reduceAdd, Int.reduceSub, Int.reduceMul, Int.toNat_natCast, reduceCtorEq, decide_true, decide_false, IntWalk.i64_in, IntWalk.u64_in, IntWalk.u8_in, h0, h3, h6, h7, h8, h9, h10, hrow]
      exact hQ1 _ _ _ b out vf vt (by omega) (by omega) (hB.new (fun _ _ _ => rfl) (by omega)) hpre hbp (by omega) (hf.slot (fun _ => rfl) (by omega)) (ht.slot (fun _ => rfl) (by omega)) ho3 (by simp (disch := omega) only [go_sem, ↓IntWalk.iteOmega, IntWalk.toNatUp, Nat.reduceEqDiff, Nat.reduceAdd, Nat.reduceMul, Nat.reduceSub, Nat.reduceLT, Nat.reduceLeDiff, Int.reduceToNat, Int.reduceLT, Int.reduceLE, Int.reduceEq, Int.reduceAdd, Int.reduceSub, Int.reduceMul, Int.toNat_natCast, reduceCtorEq, decide_true, decide_false, IntWalk.i64_in, IntWalk.u64_in, IntWalk.u8_in, h3]) (by simp (disch := omega) only [go_sem, ↓IntWalk.iteOmega, IntWalk.toNatUp, Nat.reduceEqDiff, Nat.reduceAdd, Nat.reduceMul, Nat.reduceSub, Nat.reduceLT, Nat.reduceLeDiff, Int.reduceToNat, Int.reduceLT, Int.reduceLE, Int.reduceEq, Int.reduceAdd, Int.reduceSub, Int.reduceMul, Int.toNat_natCast, reduceCtorEq, decide_true, decide_false, IntWalk.i64_in, IntWalk.u64_in, IntWalk.u8_in, h7]) (by simp (disch := omega) only [go_sem, ↓IntWalk.iteOmega, IntWalk.toNatUp, Nat.reduceEqDiff, Nat.reduceAdd, Nat.reduceMul, Nat.reduceSub, Nat.reduceLT, Nat.reduceLeDiff, Int.reduceToNat, Int.reduceLT, Int.reduceLE, Int.reduceEq, Int.reduceAdd, Int.reduceSub, Int.reduceMul, Int.toNat_natCast, reduceCtorEq, decide_true, decide_false, IntWalk.i64_in, IntWalk.u64_in, IntWalk.u8_in, h8]) (by simp (disch := omega) only [go_sem, ↓IntWalk.iteOmega, IntWalk.toNatUp, Nat.reduceEqDiff, Nat.reduceAdd, Nat.reduceMul, Nat.reduceSub, Nat.reduceLT, Nat.reduceLeDiff, Int.reduceToNat, Int.reduceLT, Int.reduceLE, Int.reduceEq, Int.reduceAdd, Int.reduceSub, Int.reduceMul, Int.toNat_natCast, reduceCtorEq, decide_true, decide_false, IntWalk.i64_in, IntWalk.u64_in, IntWalk.u8_in, h0]) (by simp (disch := omega) only [go_sem, ↓IntWalk.iteOmega, IntWalk.toNatUp, Nat.reduceEqDiff, Nat.reduceAdd, Nat.reduceMul, Nat.reduceSub, Nat.reduceLT, Nat.reduceLeDiff, Int.reduceToNat, Int.reduceLT, Int.reduceLE, Int.reduceEq, Int.reduceAdd, Int.reduceSub, Int.reduceMul, Int.toNat_natCast, reduceCtorEq, decide_true, decide_false, IntWalk.i64_in, IntWalk.u64_in, IntWalk.u8_in, h6]) hkp
  · have hB'' := hB'
    obtain ⟨vS, vF, hR⟩ := hB''
    have hrow := hR.row
    by_cases hlt : i < ks.length
    · simp (disch := omega) only [go_sem, ↓IntWalk.iteOmega, IntWalk.toNatUp, Nat.reduceEqDiff, Nat.reduceAdd, Nat.reduceMul, Nat.reduceSub, Nat.reduceLT, Nat.reduceLeDiff, Int.reduceToNat, Int.reduceLT, Int.reduceLE, Int.reduceEq, Int.reduceAdd, Int.reduceSub, Int.reduceMul, Int.toNat_natCast, reduceCtorEq, decide_true, decide_false, IntWalk.i64_in, IntWalk.u64_in, IntWalk.u8_in, h0, h3, h6, h7, h8, h9, h10, hrow]
      exact hQ2 _ _ _ b' (by omega) (hB'.new (fun _ _ _ => rfl) (by omega)) hn' hmuch (by simp (disch := omega) only [go_sem, ↓IntWalk.iteOmega, IntWalk.toNatUp, Nat.reduceEqDiff, Nat.reduceAdd, Nat.reduceMul, Nat.reduceSub, Nat.reduceLT, Nat.reduceLeDiff, Int.reduceToNat, Int.reduceLT, Int.reduceLE, Int.reduceEq, Int.reduceAdd, Int.reduceSub, Int.reduceMul, Int.toNat_natCast, reduceCtorEq, decide_true, decide_false, IntWalk.i64_in, IntWalk.u64_in, IntWalk.u8_in, h0]) (by simp (disch := omega) only [go_sem, ↓IntWalk.iteOmega, IntWalk.toNatUp, Nat.reduceEqDiff, Nat.reduceAdd, Nat.reduceMul, Nat.reduceSub, Nat.reduceLT, Nat.reduceLeDiff, Int.reduceToNat, Int.reduceLT, Int.reduceLE, Int.reduceEq, Int.reduceAdd, Int.reduceSub, Int.reduceMul, Int.toNat_natCast, reduceCtorEq, decide_true, decide_false, IntWalk.i64_in, IntWalk.u64_in, IntWalk.u8_in, h6]) hkp
    · simp (disch := omega) only [go_sem, ↓IntWalk.iteOmega, IntWalk.toNatUp, Nat.reduceEqDiff, Nat.reduceAdd, Nat.reduceMul, Nat.reduceSub, Nat.reduceLT, Nat.reduceLeDiff, Int.reduceToNat, Int.reduceLT, Int.reduceLE, Int.reduceEq, Int.reduceAdd, Int.reduceSub, Int.reduceMul, Int.toNat_natCast, reduceCtorEq, decide_true, decide_false, IntWalk.i64_in, IntWalk.u64_in, IntWalk.u8_in, h0, h3, h6, h7, h8, h9, h10, hrow]
      exact hQ2 _ _ _ b' (by omega) (hB'.new (fun _ _ _ => rfl) (by omega)) hn' hmuch (by simp (disch := omega) only [go_sem, ↓IntWalk.iteOmega, IntWalk.toNatUp, Nat.reduceEqDiff, Nat.reduceAdd, Nat.reduceMul, Nat.reduceSub, Nat.reduceLT, Nat.reduceLeDiff, Int.reduceToNat, Int.reduceLT, Int.reduceLE, Int.reduceEq, Int.reduceAdd, Int.reduceSub, Int.reduceMul, Int.toNat_natCast, reduceCtorEq, decide_true, decide_false, IntWalk.i64_in, IntWalk.u64_in, IntWalk.u8_in, h0]) (by simp (disch := omega) only [go_sem, ↓IntWalk.iteOmega, IntWalk.toNatUp, Nat.reduceEqDiff, Nat.reduceAdd, Nat.reduceMul, Nat.reduceSub, Nat.reduceLT, Nat.reduceLeDiff, Int.reduceToNat, Int.reduceLT, Int.reduceLE, Int.reduceEq, Int.reduceAdd, Int.reduceSub, Int.reduceMul, Int.toNat_natCast, reduceCtorEq, decide_true, decide_false, IntWalk.i64_in, IntWalk.u64_in, IntWalk.u8_in, h6]) hkp
end Go.Proofs.YthhfjjnhkifbfaaDoor.A
/- What may be built, by either builder. -/
namespace Go.Proofs.YthhfjjnhkifbfaaDoor.A
open Go
set_option maxRecDepth 20000
mutual
/-- What both builders build alike. -/
def okQ : Nd → Bool
  | .mk kind _ lo hi l => okQs l && (if kind = 4 ∨ kind = 5 then decide (0 < l.length ∧ l.length ≤ 10) else if kind = 6 ∨ kind = 7 ∨ kind = 8 then decide (l.length = 1) else if kind = 9 then decide (0 < l.length ∧ l.length ≤ 10 ∧ 0 ≤ lo ∧ lo ≤ hi ∧ hi ≤ 10) else decide (l.length = 0))
def okQs : List Nd → Bool
  | [] => true
  | x :: l => okQ x && okQs l
end
mutual
theorem okQ_N : ∀ (x : Nd), okQ x = true → okN x = true
  | .mk kind set lo hi l, h => by
    rw [okQ, Bool.and_eq_true] at h
    rw [okN, okQs_Ns l h.1, Bool.true_and]
    have h2 := h.2
    by_cases k4 : kind = 4 ∨ kind = 5
    · rw [if_pos k4] at h2
      rw [if_pos (by omega)]; exact h2
    rw [if_neg k4] at h2
    by_cases k6 : kind = 6 ∨ kind = 7 ∨ kind = 8
    · rw [if_pos k6, decide_eq_true_eq] at h2
      rw [if_pos (by omega), decide_eq_true_eq]; omega
    rw [if_neg k6] at h2
    rw [if_neg (by omega)]
    by_cases k9 : kind = 9
    · rw [if_pos k9] at h2 ⊢; exact h2
    · rw [if_neg k9]
theorem okQs_Ns : ∀ (l : List Nd), okQs l = true → okNs l = true
  | [], _ => by rw [okNs]
  | x :: l, h => by
    rw [okQs, Bool.and_eq_true] at h
    rw [okNs, okQ_N x h.1, okQs_Ns l h.2]; rfl
end
end Go.Proofs.YthhfjjnhkifbfaaDoor.A
