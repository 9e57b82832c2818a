/- NfaTakes answers true for whatever it is called with. -/
import Derived.Test.YtfmijoglolecgaaMLTakes1
import Derived.Test.YtfmijoglolecgaaMLTakes2
import Derived.Test.YtfmijoglolecgaaMLTakes3
import Derived.Test.YtfmijoglolecgaaMLTakes4
import Derived.Test.YtfmijoglolecgaaMLTakes5
import Derived.Test.YtfmijoglolecgaaMLTakes6
import Derived.Test.YtfmijoglolecgaaMLTakes7
import Derived.Test.YtfmijoglolecgaaMLTakes8
set_option linter.unusedVariables false
set_option linter.unusedSimpArgs false
set_option linter.unnecessarySimpa false
/- The document's matching: ends, Match. -/
namespace Go.Proofs.Ytfmijoglolecgaa.A
open Go
set_option maxRecDepth 20000
def nzE : Nat → Option (List (Nat × Nat))
  | 7 => some [(23, 28)]
  | _ => none
theorem lookEnds (X) : lookedAt (EX md0 X) nzE 3 Try.f20 = true := by kernel_rfl
abbrev finE (r : AV) : WPost := fun u a o nx => (u = .normal ∨ u = .ret) ∧ wO (resultsL Try.prog a ⟨o, nx⟩ Try.f20.results.toList) (fun vs => view o vDepth (tup1 vs) = r)
/-! ### a set -/
def outT (w : List Int) (s : Int) (b : List Bool) (i : Nat) : List Bool := (List.range b.length).map fun j => decide (1 ≤ j ∧ j ≤ i) && (b.getD (j - 1) false && stepOk s (w.getD (j - 1) 0))
theorem outT_length (w s b i) : (outT w s b i).length = b.length := by simp [outT]
theorem outT_zero (w s b) : outT w s b 0 = List.replicate b.length false := bools_ext (by rw [outT_length]; simp) fun j hj => by
  rw [outT, range_getD, decide_eq_false (by omega : ¬ (1 ≤ j ∧ j ≤ 0))]
  simp only [Bool.false_and, Bool.and_false, Bool.false_eq_true, false_iff]
  rw [List.getD_eq_getElem?_getD, List.getElem?_replicate]
  split <;> simp
theorem outT_succ (w s) (b : List Bool) (i : Nat) (h : i + 1 < b.length) : outT w s b (i + 1) = (outT w s b i).set (i + 1) (b.getD i false && stepOk s (w.getD i 0)) := by
  refine bools_ext (by rw [List.length_set, outT_length, outT_length]) fun j hj => ?_
  rw [List.length_set, outT_length] at hj
  rw [getD_setB, outT_length, outT, outT, range_getD, range_getD]
  by_cases e : i + 1 = j
  · subst e
    rw [if_pos ⟨rfl, hj⟩, decide_eq_true (by omega : 1 ≤ i + 1 ∧ i + 1 ≤ i + 1), decide_eq_true hj]
    simp
  · rw [if_neg (fun h => e h.1)]
    have : decide (1 ≤ j ∧ j ≤ i + 1) = decide (1 ≤ j ∧ j ≤ i) := by
      rw [Bool.eq_iff_iff, decide_eq_true_eq, decide_eq_true_eq]; omega
    rw [this]
theorem outT_done (w : List Int) (s lo hi : Int) (b : List Bool) (hb : b.length = w.length + 1) : outT w s b w.length = endB (Mt w (.mk 1 s lo hi [])) b := by
  refine endB_eq (outT_length _ _ _ _) fun j hj => ?_
  rw [outT, range_getD, decide_eq_true hj, Bool.true_and, Bool.and_eq_true, decide_eq_true_eq, Bool.and_eq_true]
  constructor
  · rintro ⟨⟨h1, h2⟩, h3, h4⟩
    refine ⟨j - 1, h3, ?_⟩
    rw [Mt_eq, if_pos rfl]
    exact ⟨by omega, by omega, h4⟩
  · rintro ⟨i, h1, h2⟩
    rw [Mt_eq, if_pos rfl] at h2
    obtain ⟨rfl, h3, h4⟩ := h2
    exact ⟨⟨by omega, by omega⟩, by simpa using h1, by simpa using h4⟩
theorem ends_set (w : List Int) (hw : w.length ≤ 1000000) (s : Int) (b : List Bool) (hb : b.length = w.length + 1) (X : FuncId → List AV → Option AV) :
    WP (EX md0 X) noR 10000010 nzE (Try.f20.body.getD .skip) (begin_ [nodeV (.mk 1 s 0 0 []), slI w, slB b]) (fun _ => none) 0 (finE (slB (endB (Mt w (.mk 1 s 0 0 [])) b))) := by
  rw [← outT_done w s 0 0 b hb]
  have hz := rep_bool b.length
  have hol : ∀ i, (outT w s b i).length = b.length := outT_length w s b
  simp only [Try.f20, Option.getD_some, nodeV, cNd_mk]
  simp (disch := omega) only [go_sem, ↓IntWalk.iteOmega, IntWalk.toNatUp, Nat.reduceEqDiff, Nat.reduceAdd, Nat.reduceMul, Nat.reduceSub, Nat.reduceLT, Nat.reduceLeDiff, Int.reduceToNat, Int.reduceLT, Int.reduceLE, Int.reduceEq, Int.reduceAdd, Int.reduceSub, Int.reduceMul, Int.toNat_natCast, reduceCtorEq, decide_true, decide_false, IntWalk.i64_in, IntWalk.u64_in, IntWalk.u8_in, hz]
  refine WP_loop (fun m a o nx => ∃ i : Nat, i ≤ w.length ∧ m = w.length - i ∧ 2 ≤ nx ∧ a 1 = slI w ∧ a 2 = slB b ∧ a 3 = .ptr (0, 3) (0, 3) 0 ∧ a 7 = .ref (1, 13) (1, 13) 0 b.length ∧ a 8 = .int .i64 i ∧ o (0, 3) = some (.row ⟨28, 1, (0, 3), false, true, [.int .i64 1, .int .i64 s, .int .i64 0, .int .i64 0, slN []]⟩) ∧ o (1, 13) = some (.row ⟨4, 1, (1, 13), false, true, cB (outT w s b i)⟩)) w.length (by omega) ⟨0, by omega, by omega, by omega, by simp (disch := omega) only [go_sem, ↓IntWalk.iteOmega, IntWalk.toNatUp, Nat.reduceEqDiff, Nat.reduceAdd, Nat.reduceMul, Nat.reduceSub, Nat.reduceLT, Nat.reduceLeDiff, Int.reduceToNat, Int.reduceLT, Int.reduceLE, Int.reduceEq, Int.reduceAdd, Int.reduceSub, Int.reduceMul, Int.toNat_natCast, reduceCtorEq, decide_true, decide_false, IntWalk.i64_in, IntWalk.u64_in, IntWalk.u8_in], by simp (disch := omega) only [go_sem, ↓IntWalk.iteOmega, IntWalk.toNatUp, Nat.reduceEqDiff, Nat.reduceAdd, Nat.reduceMul, Nat.reduceSub, Nat.reduceLT, Nat.reduceLeDiff, Int.reduceToNat, Int.reduceLT, Int.reduceLE, Int.reduceEq, Int.reduceAdd, Int.reduceSub, Int.reduceMul, Int.toNat_natCast, reduceCtorEq, decide_true, decide_false, IntWalk.i64_in, IntWalk.u64_in, IntWalk.u8_in], by simp (disch := omega) only [go_sem, ↓IntWalk.iteOmega, IntWalk.toNatUp, Nat.reduceEqDiff, Nat.reduceAdd, Nat.reduceMul, Nat.reduceSub, Nat.reduceLT, Nat.reduceLeDiff, Int.reduceToNat, Int.reduceLT, Int.reduceLE, Int.reduceEq, Int.reduceAdd, Int.reduceSub, Int.reduceMul, Int.toNat_natCast, reduceCtorEq, decide_true, decide_false, IntWalk.i64_in, IntWalk.u64_in, IntWalk.u8_in], by simp (disch := omega) only [go_sem, ↓IntWalk.iteOmega, IntWalk.toNatUp, Nat.reduceEqDiff, Nat.reduceAdd, Nat.reduceMul, Nat.reduceSub, Nat.reduceLT, Nat.reduceLeDiff, Int.reduceToNat, Int.reduceLT, Int.reduceLE, Int.reduceEq, Int.reduceAdd, Int.reduceSub, Int.reduceMul, Int.toNat_natCast, reduceCtorEq, decide_true, decide_false, IntWalk.i64_in, IntWalk.u64_in, IntWalk.u8_in], by simp (disch := omega) only [go_sem, ↓IntWalk.iteOmega, IntWalk.toNatUp, Nat.reduceEqDiff, Nat.reduceAdd, Nat.reduceMul, Nat.reduceSub, Nat.reduceLT, Nat.reduceLeDiff, Int.reduceToNat, Int.reduceLT, Int.reduceLE, Int.reduceEq, Int.reduceAdd, Int.reduceSub, Int.reduceMul, Int.toNat_natCast, reduceCtorEq, decide_true, decide_false, IntWalk.i64_in, IntWalk.u64_in, IntWalk.u8_in], by simp (disch := omega) only [go_sem, ↓IntWalk.iteOmega, IntWalk.toNatUp, Nat.reduceEqDiff, Nat.reduceAdd, Nat.reduceMul, Nat.reduceSub, Nat.reduceLT, Nat.reduceLeDiff, Int.reduceToNat, Int.reduceLT, Int.reduceLE, Int.reduceEq, Int.reduceAdd, Int.reduceSub, Int.reduceMul, Int.toNat_natCast, reduceCtorEq, decide_true, decide_false, IntWalk.i64_in, IntWalk.u64_in, IntWalk.u8_in], by simp (disch := omega) only [go_sem, ↓IntWalk.iteOmega, IntWalk.toNatUp, Nat.reduceEqDiff, Nat.reduceAdd, Nat.reduceMul, Nat.reduceSub, Nat.reduceLT, Nat.reduceLeDiff, Int.reduceToNat, Int.reduceLT, Int.reduceLE, Int.reduceEq, Int.reduceAdd, Int.reduceSub, Int.reduceMul, Int.toNat_natCast, reduceCtorEq, decide_true, decide_false, IntWalk.i64_in, IntWalk.u64_in, IntWalk.u8_in]; rw [outT_zero]⟩ ?_
  rintro m a o nx ⟨i, hi, rfl, hnx, a1, a2, a3, a7, a8, ho3, ho13⟩
  by_cases hlt : i < w.length
  · have hgb := cB_get (l := b) (s := 1) (show i < b.length by omega)
    have hgw := cI_get (s := 1) hlt
    have hsn := outT_succ w s b i (by omega)
    have hset := cB_set (outT w s b i) (i + 1) (b.getD i false && stepOk s (w.getD i 0)) (by rw [outT_length]; omega)
    have hoi := hol i
    unfold stepOk at hset hsn
    generalize w.getD i 0 = m at hgw hsn hset
    cases hb1 : b.getD i false with
    | false =>
      rw [hb1] at hgb hsn hset
      simp only [Bool.false_and] at hsn hset
      simp (disch := omega) only [go_sem, ↓IntWalk.iteOmega, IntWalk.toNatUp, Nat.reduceEqDiff, Nat.reduceAdd, Nat.reduceMul, Nat.reduceSub, Nat.reduceLT, Nat.reduceLeDiff, Int.reduceToNat, Int.reduceLT, Int.reduceLE, Int.reduceEq, Int.reduceAdd, Int.reduceSub, Int.reduceMul, Int.toNat_natCast, reduceCtorEq, decide_true, decide_false, IntWalk.i64_in, IntWalk.u64_in, IntWalk.u8_in, a1, a2, a3, a7, a8, ho3, ho13, nzE, hgb, hgw, hset, hoi]
      exact ⟨_, by omega, i + 1, by omega, rfl, rfl, by rw [hsn]⟩
    | true =>
      rw [hb1] at hgb hsn hset
      by_cases hm0 : 0 ≤ m
      · by_cases hm5 : m < 5
        · cases hm : hasMode s m with
          | true =>
            rw [hm, decide_eq_true hm0, decide_eq_true hm5] at hsn hset
            simp only [hasMode, decide_eq_true_eq] at hm
            simp only [Bool.and_self] at hsn hset
            simp (disch := omega) only [go_sem, ↓IntWalk.iteOmega, IntWalk.toNatUp, Nat.reduceEqDiff, Nat.reduceAdd, Nat.reduceMul, Nat.reduceSub, Nat.reduceLT, Nat.reduceLeDiff, Int.reduceToNat, Int.reduceLT, Int.reduceLE, Int.reduceEq, Int.reduceAdd, Int.reduceSub, Int.reduceMul, Int.toNat_natCast, reduceCtorEq, decide_true, decide_false, IntWalk.i64_in, IntWalk.u64_in, IntWalk.u8_in, a1, a2, a3, a7, a8, ho3, ho13, nzE, hgb, hgw, hset, hm0, hm5, hm, hoi]
            exact ⟨_, by omega, i + 1, by omega, rfl, rfl, by rw [hsn]⟩
          | false =>
            rw [hm, decide_eq_true hm0, decide_eq_true hm5] at hsn hset
            simp only [hasMode, decide_eq_false_iff_not] at hm
            simp only [Bool.and_false] at hsn hset
            simp (disch := omega) only [go_sem, ↓IntWalk.iteOmega, IntWalk.toNatUp, Nat.reduceEqDiff, Nat.reduceAdd, Nat.reduceMul, Nat.reduceSub, Nat.reduceLT, Nat.reduceLeDiff, Int.reduceToNat, Int.reduceLT, Int.reduceLE, Int.reduceEq, Int.reduceAdd, Int.reduceSub, Int.reduceMul, Int.toNat_natCast, reduceCtorEq, decide_true, decide_false, IntWalk.i64_in, IntWalk.u64_in, IntWalk.u8_in, a1, a2, a3, a7, a8, ho3, ho13, nzE, hgb, hgw, hset, hm0, hm5, hm, hoi]
            exact ⟨_, by omega, i + 1, by omega, rfl, rfl, by rw [hsn]⟩
        · rw [decide_eq_true hm0, decide_eq_false hm5] at hsn hset
          simp only [Bool.and_false, Bool.false_and] at hsn hset
          simp (disch := omega) only [go_sem, ↓IntWalk.iteOmega, IntWalk.toNatUp, Nat.reduceEqDiff, Nat.reduceAdd, Nat.reduceMul, Nat.reduceSub, Nat.reduceLT, Nat.reduceLeDiff, Int.reduceToNat, Int.reduceLT, Int.reduceLE, Int.reduceEq, Int.reduceAdd, Int.reduceSub, Int.reduceMul, Int.toNat_natCast, reduceCtorEq, decide_true, decide_false, IntWalk.i64_in, IntWalk.u64_in, IntWalk.u8_in, a1, a2, a3, a7, a8, ho3, ho13, nzE, hgb, hgw, hset, hoi]
          exact ⟨_, by omega, i + 1, by omega, rfl, rfl, by rw [hsn]⟩
      · rw [decide_eq_false hm0] at hsn hset
        simp only [Bool.and_false, Bool.false_and] at hsn hset
        simp (disch := omega) only [go_sem, ↓IntWalk.iteOmega, IntWalk.toNatUp, Nat.reduceEqDiff, Nat.reduceAdd, Nat.reduceMul, Nat.reduceSub, Nat.reduceLT, Nat.reduceLeDiff, Int.reduceToNat, Int.reduceLT, Int.reduceLE, Int.reduceEq, Int.reduceAdd, Int.reduceSub, Int.reduceMul, Int.toNat_natCast, reduceCtorEq, decide_true, decide_false, IntWalk.i64_in, IntWalk.u64_in, IntWalk.u8_in, a1, a2, a3, a7, a8, ho3, ho13, nzE, hgb, hgw, hset, hoi]
        exact ⟨_, by omega, i + 1, by omega, rfl, rfl, by rw [hsn]⟩
  · have hie : i = w.length := by omega
    rw [hie] at ho13
    have hoi := hol w.length
    have htk : (cB (outT w s b w.length)).take b.length = cB (outT w s b w.length) := take_len (by rw [cB_length, hoi])
    simp (disch := omega) only [go_sem, ↓IntWalk.iteOmega, IntWalk.toNatUp, Nat.reduceEqDiff, Nat.reduceAdd, Nat.reduceMul, Nat.reduceSub, Nat.reduceLT, Nat.reduceLeDiff, Int.reduceToNat, Int.reduceLT, Int.reduceLE, Int.reduceEq, Int.reduceAdd, Int.reduceSub, Int.reduceMul, Int.toNat_natCast, reduceCtorEq, decide_true, decide_false, IntWalk.i64_in, IntWalk.u64_in, IntWalk.u8_in, a1, a2, a3, a7, a8, ho3, ho13]
    refine ⟨.inr rfl, ?_⟩
    simp only [Try.f20]
    simp (disch := omega) only [go_sem, ↓IntWalk.iteOmega, IntWalk.toNatUp, Nat.reduceEqDiff, Nat.reduceAdd, Nat.reduceMul, Nat.reduceSub, Nat.reduceLT, Nat.reduceLeDiff, Int.reduceToNat, Int.reduceLT, Int.reduceLE, Int.reduceEq, Int.reduceAdd, Int.reduceSub, Int.reduceMul, Int.toNat_natCast, reduceCtorEq, decide_true, decide_false, IntWalk.i64_in, IntWalk.u64_in, IntWalk.u8_in, hoi, htk, ho13]
    rw [slB, hoi]
/-! ### leaves of no step -/
theorem ends_leaf (w : List Int) (k : Int) (hk : k = 2 ∨ k = 3) (b : List Bool) (hb : b.length ≤ 1000001) (X : FuncId → List AV → Option AV) :
    WP (EX md0 X) noR 10000010 nzE (Try.f20.body.getD .skip) (begin_ [nodeV (.mk k 0 0 0 []), slI w, slB b]) (fun _ => none) 0 (finE (slB (endB (Mt w (.mk k 0 0 0 [])) b))) := by
  have hz := rep_bool b.length
  simp only [Try.f20, Option.getD_some, nodeV, cNd_mk]
  rcases hk with rfl | rfl
  · have e : endB (Mt w (.mk 2 0 0 0 [])) b = List.replicate b.length false := by
      rw [← endB_false]
      exact endB_congr (fun i j => by rw [Mt_eq]; simp)
    have htk : (cB (List.replicate b.length false)).take b.length = cB (List.replicate b.length false) := take_len (by simp [cB])
    rw [e]
    simp (disch := omega) only [go_sem, ↓IntWalk.iteOmega, IntWalk.toNatUp, Nat.reduceEqDiff, Nat.reduceAdd, Nat.reduceMul, Nat.reduceSub, Nat.reduceLT, Nat.reduceLeDiff, Int.reduceToNat, Int.reduceLT, Int.reduceLE, Int.reduceEq, Int.reduceAdd, Int.reduceSub, Int.reduceMul, Int.toNat_natCast, reduceCtorEq, decide_true, decide_false, IntWalk.i64_in, IntWalk.u64_in, IntWalk.u8_in, hz]
    refine ⟨.inr rfl, ?_⟩
    simp only [Try.f20]
    simp (disch := omega) only [go_sem, ↓IntWalk.iteOmega, IntWalk.toNatUp, Nat.reduceEqDiff, Nat.reduceAdd, Nat.reduceMul, Nat.reduceSub, Nat.reduceLT, Nat.reduceLeDiff, Int.reduceToNat, Int.reduceLT, Int.reduceLE, Int.reduceEq, Int.reduceAdd, Int.reduceSub, Int.reduceMul, Int.toNat_natCast, reduceCtorEq, decide_true, decide_false, IntWalk.i64_in, IntWalk.u64_in, IntWalk.u8_in, htk]
    rw [slB, List.length_replicate]
  · have e : endB (Mt w (.mk 3 0 0 0 [])) b = b := (endB_congr (fun i j => by rw [Mt_eq]; simp)).trans (endB_id b)
    rw [e]
    simp (disch := omega) only [go_sem, ↓IntWalk.iteOmega, IntWalk.toNatUp, Nat.reduceEqDiff, Nat.reduceAdd, Nat.reduceMul, Nat.reduceSub, Nat.reduceLT, Nat.reduceLeDiff, Int.reduceToNat, Int.reduceLT, Int.reduceLE, Int.reduceEq, Int.reduceAdd, Int.reduceSub, Int.reduceMul, Int.toNat_natCast, reduceCtorEq, decide_true, decide_false, IntWalk.i64_in, IntWalk.u64_in, IntWalk.u8_in, hz]
    refine ⟨.inr rfl, ?_⟩
    simp only [Try.f20]
    simp (disch := omega) only [go_sem, ↓IntWalk.iteOmega, IntWalk.toNatUp, Nat.reduceEqDiff, Nat.reduceAdd, Nat.reduceMul, Nat.reduceSub, Nat.reduceLT, Nat.reduceLeDiff, Int.reduceToNat, Int.reduceLT, Int.reduceLE, Int.reduceEq, Int.reduceAdd, Int.reduceSub, Int.reduceMul, Int.toNat_natCast, reduceCtorEq, decide_true, decide_false, IntWalk.i64_in, IntWalk.u64_in, IntWalk.u8_in]
/-! ### joins, unions -/
theorem mtJ_snoc (w : List Int) (x : Nd) : ∀ (l : List Nd) (i j : Nat), MtJ w (l ++ [x]) i j ↔ ∃ k, MtJ w l i k ∧ Mt w x k j
  | [], i, j => by
    rw [List.nil_append, MtJ, MtJ, MtJ]
    exact ⟨fun ⟨k, h1, h2⟩ => ⟨i, rfl, by obtain rfl : k = j := h2; exact h1⟩, fun ⟨k, h1, h2⟩ => ⟨j, by obtain rfl : i = k := h1; exact h2, rfl⟩⟩
  | y :: l, i, j => by
    rw [List.cons_append, MtJ, MtJ]
    constructor
    · rintro ⟨k, h1, h2⟩
      obtain ⟨k', h3, h4⟩ := (mtJ_snoc w x l k j).1 h2
      exact ⟨k', ⟨k, h1, h3⟩, h4⟩
    · rintro ⟨k', ⟨k, h1, h3⟩, h4⟩
      exact ⟨k, h1, (mtJ_snoc w x l k j).2 ⟨k', h3, h4⟩⟩
theorem mtU_snoc (w : List Int) (x : Nd) : ∀ (l : List Nd) (i j : Nat), MtU w (l ++ [x]) i j ↔ MtU w l i j ∨ Mt w x i j
  | [], i, j => by rw [List.nil_append, MtU, MtU]; exact or_comm
  | y :: l, i, j => by
    rw [List.cons_append, MtU, MtU]
    show (Mt w y i j ∨ MtU w (l ++ [x]) i j) ↔ (Mt w y i j ∨ MtU w l i j) ∨ Mt w x i j
    rw [mtU_snoc w x l]
    exact or_assoc.symm
theorem mtJ_le (w : List Int) : ∀ (l : List Nd) (i j : Nat), MtJ w l i j → i ≤ w.length → j ≤ w.length
  | [], i, j, h, hi => by rw [MtJ] at h; obtain rfl : i = j := h; exact hi
  | x :: l, i, j, h, hi => by
    rw [MtJ] at h
    obtain ⟨k, h1, h2⟩ := h
    exact mtJ_le w l k j h2 (Mt_le w x i k h1 hi)
theorem ends_join (w : List Int) (hw : w.length ≤ 1000000) (l : List Nd) (hl : l.length ≤ 1000) (b : List Bool) (hb : b.length = w.length + 1) (X : FuncId → List AV → Option AV) (hch : ∀ i, i < l.length → ∀ c : List Bool, c.length = w.length + 1 → X 20 [nodeV (l.getD i default), slI w, slB c] = some (slB (endB (Mt w (l.getD i default)) c))) :
    WP (EX md0 X) noR 10000010 nzE (Try.f20.body.getD .skip) (begin_ [nodeV (.mk 4 0 0 0 l), slI w, slB b]) (fun _ => none) 0 (finE (slB (endB (Mt w (.mk 4 0 0 0 l)) b))) := by
  have hz := rep_bool b.length
  have e0 : endB (MtJ w []) b = b := (endB_congr (fun i j => by rw [MtJ])).trans (endB_id b)
  have e1 : endB (Mt w (.mk 4 0 0 0 l)) b = endB (MtJ w l) b := endB_congr (fun i j => by rw [Mt_eq]; simp)
  rw [e1]
  simp only [Try.f20, Option.getD_some, nodeV, cNd_mk]
  simp (disch := omega) only [go_sem, ↓IntWalk.iteOmega, IntWalk.toNatUp, Nat.reduceEqDiff, Nat.reduceAdd, Nat.reduceMul, Nat.reduceSub, Nat.reduceLT, Nat.reduceLeDiff, Int.reduceToNat, Int.reduceLT, Int.reduceLE, Int.reduceEq, Int.reduceAdd, Int.reduceSub, Int.reduceMul, Int.toNat_natCast, reduceCtorEq, decide_true, decide_false, IntWalk.i64_in, IntWalk.u64_in, IntWalk.u8_in, hz]
  refine WP_loop (fun m a o nx => ∃ i : Nat, i ≤ l.length ∧ m = l.length - i ∧ 2 ≤ nx ∧ a 1 = slI w ∧ a 3 = .ptr (0, 3) (0, 3) 0 ∧ a 7 = slB (endB (MtJ w (l.take i)) b) ∧ a 9 = .int .i64 i ∧ o (0, 3) = some (.row ⟨28, 1, (0, 3), false, true, [.int .i64 4, .int .i64 0, .int .i64 0, .int .i64 0, slN l]⟩)) l.length (by omega) ⟨0, by omega, by omega, by omega, by simp (disch := omega) only [go_sem, ↓IntWalk.iteOmega, IntWalk.toNatUp, Nat.reduceEqDiff, Nat.reduceAdd, Nat.reduceMul, Nat.reduceSub, Nat.reduceLT, Nat.reduceLeDiff, Int.reduceToNat, Int.reduceLT, Int.reduceLE, Int.reduceEq, Int.reduceAdd, Int.reduceSub, Int.reduceMul, Int.toNat_natCast, reduceCtorEq, decide_true, decide_false, IntWalk.i64_in, IntWalk.u64_in, IntWalk.u8_in], by simp (disch := omega) only [go_sem, ↓IntWalk.iteOmega, IntWalk.toNatUp, Nat.reduceEqDiff, Nat.reduceAdd, Nat.reduceMul, Nat.reduceSub, Nat.reduceLT, Nat.reduceLeDiff, Int.reduceToNat, Int.reduceLT, Int.reduceLE, Int.reduceEq, Int.reduceAdd, Int.reduceSub, Int.reduceMul, Int.toNat_natCast, reduceCtorEq, decide_true, decide_false, IntWalk.i64_in, IntWalk.u64_in, IntWalk.u8_in], by simp (disch := omega) only [go_sem, ↓IntWalk.iteOmega, IntWalk.toNatUp, Nat.reduceEqDiff, Nat.reduceAdd, Nat.reduceMul, Nat.reduceSub, Nat.reduceLT, Nat.reduceLeDiff, Int.reduceToNat, Int.reduceLT, Int.reduceLE, Int.reduceEq, Int.reduceAdd, Int.reduceSub, Int.reduceMul, Int.toNat_natCast, reduceCtorEq, decide_true, decide_false, IntWalk.i64_in, IntWalk.u64_in, IntWalk.u8_in]; rw [e0], by simp (disch := omega) only [go_sem, ↓IntWalk.iteOmega, IntWalk.toNatUp, Nat.reduceEqDiff, Nat.reduceAdd, Nat.reduceMul, Nat.reduceSub, Nat.reduceLT, Nat.reduceLeDiff, Int.reduceToNat, Int.reduceLT, Int.reduceLE, Int.reduceEq, Int.reduceAdd, Int.reduceSub, Int.reduceMul, Int.toNat_natCast, reduceCtorEq, decide_true, decide_false, IntWalk.i64_in, IntWalk.u64_in, IntWalk.u8_in], by simp (disch := omega) only [go_sem, ↓IntWalk.iteOmega, IntWalk.toNatUp, Nat.reduceEqDiff, Nat.reduceAdd, Nat.reduceMul, Nat.reduceSub, Nat.reduceLT, Nat.reduceLeDiff, Int.reduceToNat, Int.reduceLT, Int.reduceLE, Int.reduceEq, Int.reduceAdd, Int.reduceSub, Int.reduceMul, Int.toNat_natCast, reduceCtorEq, decide_true, decide_false, IntWalk.i64_in, IntWalk.u64_in, IntWalk.u8_in]⟩ ?_
  rintro m a o nx ⟨i, hi, rfl, hnx, a1, a3, a7, a9, ho⟩
  by_cases hlt : i < l.length
  · have hat := cNds_at hlt
    have hl1 : (endB (MtJ w (l.take i)) b).length = b.length := endB_length _ _
    have hci := hch i hlt _ (hl1.trans hb)
    rw [endB_comp (fun i k hm hi => by have := mtJ_le w _ i k hm (by omega); omega)] at hci
    have hsn : endB (MtJ w (l.take (i + 1))) b = endB (fun p q => ∃ k, MtJ w (l.take i) p k ∧ Mt w (l.getD i default) k q) b := by
      rw [take_succ_getD hlt default]
      exact endB_congr (fun p q => mtJ_snoc w _ _ p q)
    rw [← hsn] at hci
    simp only [nodeV] at hci
    clear hsn
    generalize l.getD i default = x at *
    simp (disch := omega) only [go_sem, ↓IntWalk.iteOmega, IntWalk.toNatUp, Nat.reduceEqDiff, Nat.reduceAdd, Nat.reduceMul, Nat.reduceSub, Nat.reduceLT, Nat.reduceLeDiff, Int.reduceToNat, Int.reduceLT, Int.reduceLE, Int.reduceEq, Int.reduceAdd, Int.reduceSub, Int.reduceMul, Int.toNat_natCast, reduceCtorEq, decide_true, decide_false, IntWalk.i64_in, IntWalk.u64_in, IntWalk.u8_in, a1, a3, a7, a9, ho, hat, hci]
    exact ⟨_, by omega, i + 1, by omega, rfl, rfl, rfl⟩
  · have hie : i = l.length := by omega
    rw [hie, List.take_length] at a7
    simp (disch := omega) only [go_sem, ↓IntWalk.iteOmega, IntWalk.toNatUp, Nat.reduceEqDiff, Nat.reduceAdd, Nat.reduceMul, Nat.reduceSub, Nat.reduceLT, Nat.reduceLeDiff, Int.reduceToNat, Int.reduceLT, Int.reduceLE, Int.reduceEq, Int.reduceAdd, Int.reduceSub, Int.reduceMul, Int.toNat_natCast, reduceCtorEq, decide_true, decide_false, IntWalk.i64_in, IntWalk.u64_in, IntWalk.u8_in, a1, a3, a7, a9, ho]
    refine ⟨.inr rfl, ?_⟩
    simp only [Try.f20]
    simp (disch := omega) only [go_sem, ↓IntWalk.iteOmega, IntWalk.toNatUp, Nat.reduceEqDiff, Nat.reduceAdd, Nat.reduceMul, Nat.reduceSub, Nat.reduceLT, Nat.reduceLeDiff, Int.reduceToNat, Int.reduceLT, Int.reduceLE, Int.reduceEq, Int.reduceAdd, Int.reduceSub, Int.reduceMul, Int.toNat_natCast, reduceCtorEq, decide_true, decide_false, IntWalk.i64_in, IntWalk.u64_in, IntWalk.u8_in]
theorem ends_union (w : List Int) (hw : w.length ≤ 1000000) (l : List Nd) (h0 : l ≠ []) (hl : l.length ≤ 1000) (b : List Bool) (hb : b.length = w.length + 1) (X : FuncId → List AV → Option AV) (hch : ∀ i, i < l.length → ∀ c : List Bool, c.length = w.length + 1 → X 20 [nodeV (l.getD i default), slI w, slB c] = some (slB (endB (Mt w (l.getD i default)) c)))
    (hboth : ∀ a c : List Bool, c.length = a.length → a.length ≤ 10000000 → X 30 [slB a, slB c] = some (.tup [slB (orB a c), .bool (moreB a c)])) :
    WP (EX md0 X) noR 10000010 nzE (Try.f20.body.getD .skip) (begin_ [nodeV (.mk 5 0 0 0 l), slI w, slB b]) (fun _ => none) 0 (finE (slB (endB (Mt w (.mk 5 0 0 0 l)) b))) := by
  have hz := rep_bool b.length
  have e0 : endB (MtU w []) b = List.replicate b.length false := (endB_congr (fun i j => by rw [MtU])).trans (endB_false b)
  have e1 : endB (Mt w (.mk 5 0 0 0 l)) b = endB (MtU w l) b := endB_congr (fun i j => by rw [Mt_eq]; simp)
  have hlp : l.length ≠ 0 := fun e => h0 (List.length_eq_zero_iff.1 e)
  have htk : (cB (List.replicate b.length false)).take b.length = cB (List.replicate b.length false) := take_len (by simp [cB])
  have hlr : (List.replicate b.length false).length = b.length := List.length_replicate
  rw [e1]
  simp only [Try.f20, Option.getD_some, nodeV, cNd_mk]
  simp (disch := omega) only [go_sem, ↓IntWalk.iteOmega, IntWalk.toNatUp, Nat.reduceEqDiff, Nat.reduceAdd, Nat.reduceMul, Nat.reduceSub, Nat.reduceLT, Nat.reduceLeDiff, Int.reduceToNat, Int.reduceLT, Int.reduceLE, Int.reduceEq, Int.reduceAdd, Int.reduceSub, Int.reduceMul, Int.toNat_natCast, reduceCtorEq, decide_true, decide_false, IntWalk.i64_in, IntWalk.u64_in, IntWalk.u8_in, hz]
  refine WP_loop (fun m a o nx => ∃ i : Nat, i ≤ l.length ∧ m = l.length - i ∧ 2 ≤ nx ∧ a 1 = slI w ∧ a 2 = slB b ∧ a 3 = .ptr (0, 3) (0, 3) 0 ∧ ((0 < i ∧ a 7 = slB (endB (MtU w (l.take i)) b)) ∨ (i = 0 ∧ a 7 = .ref (1, 13) (1, 13) 0 b.length ∧ o (1, 13) = some (.row ⟨4, 1, (1, 13), false, true, cB (List.replicate b.length false)⟩))) ∧ a 10 = .int .i64 i ∧ o (0, 3) = some (.row ⟨28, 1, (0, 3), false, true, [.int .i64 5, .int .i64 0, .int .i64 0, .int .i64 0, slN l]⟩)) l.length (by omega) ⟨0, by omega, by omega, by omega, by simp (disch := omega) only [go_sem, ↓IntWalk.iteOmega, IntWalk.toNatUp, Nat.reduceEqDiff, Nat.reduceAdd, Nat.reduceMul, Nat.reduceSub, Nat.reduceLT, Nat.reduceLeDiff, Int.reduceToNat, Int.reduceLT, Int.reduceLE, Int.reduceEq, Int.reduceAdd, Int.reduceSub, Int.reduceMul, Int.toNat_natCast, reduceCtorEq, decide_true, decide_false, IntWalk.i64_in, IntWalk.u64_in, IntWalk.u8_in], by simp (disch := omega) only [go_sem, ↓IntWalk.iteOmega, IntWalk.toNatUp, Nat.reduceEqDiff, Nat.reduceAdd, Nat.reduceMul, Nat.reduceSub, Nat.reduceLT, Nat.reduceLeDiff, Int.reduceToNat, Int.reduceLT, Int.reduceLE, Int.reduceEq, Int.reduceAdd, Int.reduceSub, Int.reduceMul, Int.toNat_natCast, reduceCtorEq, decide_true, decide_false, IntWalk.i64_in, IntWalk.u64_in, IntWalk.u8_in], by simp (disch := omega) only [go_sem, ↓IntWalk.iteOmega, IntWalk.toNatUp, Nat.reduceEqDiff, Nat.reduceAdd, Nat.reduceMul, Nat.reduceSub, Nat.reduceLT, Nat.reduceLeDiff, Int.reduceToNat, Int.reduceLT, Int.reduceLE, Int.reduceEq, Int.reduceAdd, Int.reduceSub, Int.reduceMul, Int.toNat_natCast, reduceCtorEq, decide_true, decide_false, IntWalk.i64_in, IntWalk.u64_in, IntWalk.u8_in], .inr ⟨rfl, by simp (disch := omega) only [go_sem, ↓IntWalk.iteOmega, IntWalk.toNatUp, Nat.reduceEqDiff, Nat.reduceAdd, Nat.reduceMul, Nat.reduceSub, Nat.reduceLT, Nat.reduceLeDiff, Int.reduceToNat, Int.reduceLT, Int.reduceLE, Int.reduceEq, Int.reduceAdd, Int.reduceSub, Int.reduceMul, Int.toNat_natCast, reduceCtorEq, decide_true, decide_false, IntWalk.i64_in, IntWalk.u64_in, IntWalk.u8_in], by simp (disch := omega) only [go_sem, ↓IntWalk.iteOmega, IntWalk.toNatUp, Nat.reduceEqDiff, Nat.reduceAdd, Nat.reduceMul, Nat.reduceSub, Nat.reduceLT, Nat.reduceLeDiff, Int.reduceToNat, Int.reduceLT, Int.reduceLE, Int.reduceEq, Int.reduceAdd, Int.reduceSub, Int.reduceMul, Int.toNat_natCast, reduceCtorEq, decide_true, decide_false, IntWalk.i64_in, IntWalk.u64_in, IntWalk.u8_in]⟩, by simp (disch := omega) only [go_sem, ↓IntWalk.iteOmega, IntWalk.toNatUp, Nat.reduceEqDiff, Nat.reduceAdd, Nat.reduceMul, Nat.reduceSub, Nat.reduceLT, Nat.reduceLeDiff, Int.reduceToNat, Int.reduceLT, Int.reduceLE, Int.reduceEq, Int.reduceAdd, Int.reduceSub, Int.reduceMul, Int.toNat_natCast, reduceCtorEq, decide_true, decide_false, IntWalk.i64_in, IntWalk.u64_in, IntWalk.u8_in], by simp (disch := omega) only [go_sem, ↓IntWalk.iteOmega, IntWalk.toNatUp, Nat.reduceEqDiff, Nat.reduceAdd, Nat.reduceMul, Nat.reduceSub, Nat.reduceLT, Nat.reduceLeDiff, Int.reduceToNat, Int.reduceLT, Int.reduceLE, Int.reduceEq, Int.reduceAdd, Int.reduceSub, Int.reduceMul, Int.toNat_natCast, reduceCtorEq, decide_true, decide_false, IntWalk.i64_in, IntWalk.u64_in, IntWalk.u8_in]⟩ ?_
  rintro m a o nx ⟨i, hi, rfl, hnx, a1, a2, a3, h7, a10, ho⟩
  by_cases hlt : i < l.length
  · have hat := cNds_at hlt
    have hl1 : (endB (MtU w (l.take i)) b).length = b.length := endB_length _ _
    have hl3 : (endB (MtU w (l.take (i + 1))) b).length = b.length := endB_length _ _
    have hl2 : (endB (Mt w (l.getD i default)) b).length = b.length := endB_length _ _
    have hci := hch i hlt _ hb
    have hbo := hboth (endB (MtU w (l.take i)) b) (endB (Mt w (l.getD i default)) b) (by omega) (by omega)
    have hsn : endB (MtU w (l.take (i + 1))) b = endB (fun p q => MtU w (l.take i) p q ∨ Mt w (l.getD i default) p q) b := by
      rw [take_succ_getD hlt default]
      exact endB_congr (fun p q => mtU_snoc w _ _ p q)
    rw [endB_or, ← hsn] at hbo
    generalize moreB (endB (MtU w (l.take i)) b) (endB (Mt w (l.getD i default)) b) = q at hbo
    simp only [nodeV] at hci
    clear hsn
    rcases h7 with ⟨h0, a7⟩ | ⟨rfl, a7, ho7⟩
    · generalize l.getD i default = x at *
      simp (disch := omega) only [go_sem, ↓IntWalk.iteOmega, IntWalk.toNatUp, Nat.reduceEqDiff, Nat.reduceAdd, Nat.reduceMul, Nat.reduceSub, Nat.reduceLT, Nat.reduceLeDiff, Int.reduceToNat, Int.reduceLT, Int.reduceLE, Int.reduceEq, Int.reduceAdd, Int.reduceSub, Int.reduceMul, Int.toNat_natCast, reduceCtorEq, decide_true, decide_false, IntWalk.i64_in, IntWalk.u64_in, IntWalk.u8_in, a1, a2, a3, a7, a10, ho, hat, hci, hbo]
      exact ⟨_, by omega, i + 1, by omega, rfl, ⟨by omega, rfl⟩, rfl⟩
    · rw [List.take_zero, e0] at hbo
      simp only [slB, hlr] at hbo
      generalize l.getD 0 default = x at *
      rw [Nat.zero_mul] at hat
      rw [List.drop_zero] at hat
      simp (disch := omega) only [go_sem, ↓IntWalk.iteOmega, IntWalk.toNatUp, Nat.reduceEqDiff, Nat.reduceAdd, Nat.reduceMul, Nat.reduceSub, Nat.reduceLT, Nat.reduceLeDiff, Int.reduceToNat, Int.reduceLT, Int.reduceLE, Int.reduceEq, Int.reduceAdd, Int.reduceSub, Int.reduceMul, Int.toNat_natCast, reduceCtorEq, decide_true, decide_false, IntWalk.i64_in, IntWalk.u64_in, IntWalk.u8_in, a1, a2, a3, a7, a10, ho, ho7, hat, hci, hbo, htk]
      exact ⟨_, by omega, 1, by omega, rfl, ⟨by omega, rfl⟩, rfl⟩
  · have hie : i = l.length := by omega
    rcases h7 with ⟨h0, a7⟩ | ⟨rfl, a7, ho7⟩
    · rw [hie, List.take_length] at a7
      simp (disch := omega) only [go_sem, ↓IntWalk.iteOmega, IntWalk.toNatUp, Nat.reduceEqDiff, Nat.reduceAdd, Nat.reduceMul, Nat.reduceSub, Nat.reduceLT, Nat.reduceLeDiff, Int.reduceToNat, Int.reduceLT, Int.reduceLE, Int.reduceEq, Int.reduceAdd, Int.reduceSub, Int.reduceMul, Int.toNat_natCast, reduceCtorEq, decide_true, decide_false, IntWalk.i64_in, IntWalk.u64_in, IntWalk.u8_in, a1, a2, a3, a7, a10, ho]
      refine ⟨.inr rfl, ?_⟩
      simp only [Try.f20]
      simp (disch := omega) only [go_sem, ↓IntWalk.iteOmega, IntWalk.toNatUp, Nat.reduceEqDiff, Nat.reduceAdd, Nat.reduceMul, Nat.reduceSub, Nat.reduceLT, Nat.reduceLeDiff, Int.reduceToNat, Int.reduceLT, Int.reduceLE, Int.reduceEq, Int.reduceAdd, Int.reduceSub, Int.reduceMul, Int.toNat_natCast, reduceCtorEq, decide_true, decide_false, IntWalk.i64_in, IntWalk.u64_in, IntWalk.u8_in]
    · omega
/-! ### one part -/
def ROft (w : List Int) (x : Nd) (args : List AV) (r : AV) : Prop := ∃ b : List Bool, b.length = w.length + 1 ∧ args = [nodeV x, slI w, slB b, .int .i64 0] ∧ r = slB (endB (plusM (Mt w x)) b)
theorem ROft_fn (w x) : Fun1 (ROft w x) := by
  rintro args r r' ⟨b, _, rfl, rfl⟩ ⟨b', _, h, rfl⟩
  simp only [List.cons.injEq, AV.sl.injEq, and_true, true_and] at h
  rw [cB_inj h.2]
def RRp (w : List Int) (x : Nd) (lo hi : Nat) (args : List AV) (r : AV) : Prop := ∃ b : List Bool, b.length = w.length + 1 ∧ args = [nodeV (.mk 9 0 lo hi [x]), slI w, slB b] ∧ r = slB (endB (repM lo hi (Mt w x)) b)
theorem RRp_fn (w x lo hi) : Fun1 (RRp w x lo hi) := by
  rintro args r r' ⟨b, _, rfl, rfl⟩ ⟨b', _, h, rfl⟩
  simp only [List.cons.injEq, AV.sl.injEq, and_true, true_and] at h
  rw [cB_inj h.2]
theorem mtH_one (w : List Int) (x : Nd) : MtH w [x] = Mt w x := by rw [MtH]
theorem ends_post (w : List Int) (hw : w.length ≤ 1000000) (k : Int) (hk : k = 6 ∨ k = 7 ∨ k = 8) (x : Nd) (b : List Bool) (hb : b.length = w.length + 1) (X : FuncId → List AV → Option AV) (hch : X 20 [nodeV x, slI w, slB b] = some (slB (endB (Mt w x) b)))
    (hboth : ∀ a c : List Bool, c.length = a.length → a.length ≤ 10000000 → X 30 [slB a, slB c] = some (.tup [slB (orB a c), .bool (moreB a c)])) (hoft : X 31 [nodeV x, slI w, slB b, .int .i64 0] = some (slB (endB (plusM (Mt w x)) b))) :
    WP (EX md0 X) noR 10000010 nzE (Try.f20.body.getD .skip) (begin_ [nodeV (.mk k 0 0 0 [x]), slI w, slB b]) (fun _ => none) 0 (finE (slB (endB (Mt w (.mk k 0 0 0 [x])) b))) := by
  have hz := rep_bool b.length
  have hat : cNds [x] = cNd x ++ [] := by rw [cNds_one, List.append_nil]
  simp only [nodeV] at hch hoft
  simp only [Try.f20, Option.getD_some, nodeV, cNd_mk, slN, List.length_singleton, hat]
  have hl1 : (endB (plusM (Mt w x)) b).length = b.length := endB_length _ _
  have hl2 : (endB (Mt w x) b).length = b.length := endB_length _ _
  rcases hk with rfl | rfl | rfl
  · have e : endB (Mt w (.mk 6 0 0 0 [x])) b = orB b (endB (plusM (Mt w x)) b) := by
      conv => rhs; rw [← endB_id b, endB_id b]
      have := endB_or (fun i j => i = j) (plusM (Mt w x)) b
      rw [endB_id] at this
      rw [this]
      refine endB_congr (fun i j => ?_)
      rw [Mt_eq, if_neg (by decide), if_neg (by decide), if_neg (by decide), if_neg (by decide), if_pos rfl, mtH_one]
      constructor
      · rintro ⟨m, h⟩
        cases m with
        | zero => exact .inl h
        | succ m => exact .inr ⟨m + 1, by omega, h⟩
      · rintro (h | ⟨m, _, h⟩)
        · exact ⟨0, h⟩
        · exact ⟨m, h⟩
    have hbo := hboth b (endB (plusM (Mt w x)) b) (by omega) (by omega)
    rw [← e] at hbo
    generalize moreB b (endB (plusM (Mt w x)) b) = q at hbo
    simp (disch := omega) only [go_sem, ↓IntWalk.iteOmega, IntWalk.toNatUp, Nat.reduceEqDiff, Nat.reduceAdd, Nat.reduceMul, Nat.reduceSub, Nat.reduceLT, Nat.reduceLeDiff, Int.reduceToNat, Int.reduceLT, Int.reduceLE, Int.reduceEq, Int.reduceAdd, Int.reduceSub, Int.reduceMul, Int.toNat_natCast, reduceCtorEq, decide_true, decide_false, IntWalk.i64_in, IntWalk.u64_in, IntWalk.u8_in, hz, hoft, hbo]
    refine ⟨.inr rfl, ?_⟩
    simp only [Try.f20]
    simp (disch := omega) only [go_sem, ↓IntWalk.iteOmega, IntWalk.toNatUp, Nat.reduceEqDiff, Nat.reduceAdd, Nat.reduceMul, Nat.reduceSub, Nat.reduceLT, Nat.reduceLeDiff, Int.reduceToNat, Int.reduceLT, Int.reduceLE, Int.reduceEq, Int.reduceAdd, Int.reduceSub, Int.reduceMul, Int.toNat_natCast, reduceCtorEq, decide_true, decide_false, IntWalk.i64_in, IntWalk.u64_in, IntWalk.u8_in]
  · have e : endB (Mt w (.mk 7 0 0 0 [x])) b = endB (plusM (Mt w x)) b := by
      refine endB_congr (fun i j => ?_)
      rw [Mt_eq, if_neg (by decide), if_neg (by decide), if_neg (by decide), if_neg (by decide), if_neg (by decide), if_pos rfl, mtH_one]
      exact Iff.rfl
    rw [← e] at hoft
    simp (disch := omega) only [go_sem, ↓IntWalk.iteOmega, IntWalk.toNatUp, Nat.reduceEqDiff, Nat.reduceAdd, Nat.reduceMul, Nat.reduceSub, Nat.reduceLT, Nat.reduceLeDiff, Int.reduceToNat, Int.reduceLT, Int.reduceLE, Int.reduceEq, Int.reduceAdd, Int.reduceSub, Int.reduceMul, Int.toNat_natCast, reduceCtorEq, decide_true, decide_false, IntWalk.i64_in, IntWalk.u64_in, IntWalk.u8_in, hz, hoft]
    refine ⟨.inr rfl, ?_⟩
    simp only [Try.f20]
    simp (disch := omega) only [go_sem, ↓IntWalk.iteOmega, IntWalk.toNatUp, Nat.reduceEqDiff, Nat.reduceAdd, Nat.reduceMul, Nat.reduceSub, Nat.reduceLT, Nat.reduceLeDiff, Int.reduceToNat, Int.reduceLT, Int.reduceLE, Int.reduceEq, Int.reduceAdd, Int.reduceSub, Int.reduceMul, Int.toNat_natCast, reduceCtorEq, decide_true, decide_false, IntWalk.i64_in, IntWalk.u64_in, IntWalk.u8_in]
  · have e : endB (Mt w (.mk 8 0 0 0 [x])) b = orB b (endB (Mt w x) b) := by
      have := endB_or (fun i j => i = j) (Mt w x) b
      rw [endB_id] at this
      rw [this]
      refine endB_congr (fun i j => ?_)
      rw [Mt_eq, if_neg (by decide), if_neg (by decide), if_neg (by decide), if_neg (by decide), if_neg (by decide), if_neg (by decide), if_pos rfl, mtH_one]
      constructor
      · rintro ⟨m, h0, h⟩
        match m, h0, h with
        | 0, _, h => exact .inl h
        | 1, _, ⟨k, h1, h2⟩ => exact .inr (by obtain rfl : k = j := h2; exact h1)
      · rintro (h | h)
        · exact ⟨0, by omega, h⟩
        · exact ⟨1, by omega, j, h, rfl⟩
    have hbo := hboth b (endB (Mt w x) b) (by omega) (by omega)
    rw [← e] at hbo
    generalize moreB b (endB (Mt w x) b) = q at hbo
    simp (disch := omega) only [go_sem, ↓IntWalk.iteOmega, IntWalk.toNatUp, Nat.reduceEqDiff, Nat.reduceAdd, Nat.reduceMul, Nat.reduceSub, Nat.reduceLT, Nat.reduceLeDiff, Int.reduceToNat, Int.reduceLT, Int.reduceLE, Int.reduceEq, Int.reduceAdd, Int.reduceSub, Int.reduceMul, Int.toNat_natCast, reduceCtorEq, decide_true, decide_false, IntWalk.i64_in, IntWalk.u64_in, IntWalk.u8_in, hz, hch, hbo]
    refine ⟨.inr rfl, ?_⟩
    simp only [Try.f20]
    simp (disch := omega) only [go_sem, ↓IntWalk.iteOmega, IntWalk.toNatUp, Nat.reduceEqDiff, Nat.reduceAdd, Nat.reduceMul, Nat.reduceSub, Nat.reduceLT, Nat.reduceLeDiff, Int.reduceToNat, Int.reduceLT, Int.reduceLE, Int.reduceEq, Int.reduceAdd, Int.reduceSub, Int.reduceMul, Int.toNat_natCast, reduceCtorEq, decide_true, decide_false, IntWalk.i64_in, IntWalk.u64_in, IntWalk.u8_in]
theorem ends_rep (w : List Int) (hw : w.length ≤ 1000000) (lo hi : Nat) (x : Nd) (b : List Bool) (hb : b.length = w.length + 1) (X : FuncId → List AV → Option AV) (hrep : X 32 [nodeV (.mk 9 0 lo hi [x]), slI w, slB b] = some (slB (endB (repM lo hi (Mt w x)) b))) :
    WP (EX md0 X) noR 10000010 nzE (Try.f20.body.getD .skip) (begin_ [nodeV (.mk 9 0 lo hi [x]), slI w, slB b]) (fun _ => none) 0 (finE (slB (endB (Mt w (.mk 9 0 lo hi [x])) b))) := by
  have hz := rep_bool b.length
  have e : endB (Mt w (.mk 9 0 lo hi [x])) b = endB (repM lo hi (Mt w x)) b := by
    refine endB_congr (fun i j => ?_)
    rw [Mt_eq, if_neg (by decide), if_neg (by decide), if_neg (by decide), if_neg (by decide), if_neg (by decide), if_neg (by decide), if_neg (by decide), if_pos rfl, mtH_one]
    exact exists_congr fun m => and_congr (by omega) (and_congr (by omega) Iff.rfl)
  rw [← e] at hrep
  simp only [nodeV, cNd_mk, slN, List.length_singleton, cNds_one] at hrep
  simp only [Try.f20, Option.getD_some, nodeV, cNd_mk, slN, List.length_singleton, cNds_one]
  simp (disch := omega) only [go_sem, ↓IntWalk.iteOmega, IntWalk.toNatUp, Nat.reduceEqDiff, Nat.reduceAdd, Nat.reduceMul, Nat.reduceSub, Nat.reduceLT, Nat.reduceLeDiff, Int.reduceToNat, Int.reduceLT, Int.reduceLE, Int.reduceEq, Int.reduceAdd, Int.reduceSub, Int.reduceMul, Int.toNat_natCast, reduceCtorEq, decide_true, decide_false, IntWalk.i64_in, IntWalk.u64_in, IntWalk.u8_in, hz, hrep]
  refine ⟨.inr rfl, ?_⟩
  simp only [Try.f20]
  simp (disch := omega) only [go_sem, ↓IntWalk.iteOmega, IntWalk.toNatUp, Nat.reduceEqDiff, Nat.reduceAdd, Nat.reduceMul, Nat.reduceSub, Nat.reduceLT, Nat.reduceLeDiff, Int.reduceToNat, Int.reduceLT, Int.reduceLE, Int.reduceEq, Int.reduceAdd, Int.reduceSub, Int.reduceMul, Int.toNat_natCast, reduceCtorEq, decide_true, decide_false, IntWalk.i64_in, IntWalk.u64_in, IntWalk.u8_in]
/-! ### the contract -/
noncomputable def XE (w : List Int) (l : List Nd) (lo hi : Nat) : FuncId → List AV → Option AV := tabLook [(20, tRel (RKid w l)), (30, tRel RBoth), (31, tRel (ROft w (l.getD 0 default))), (32, tRel (RRp w (l.getD 0 default) lo hi))]
theorem ends_ok (w : List Int) (hw : w.length ≤ 1000000) : ∀ (n : Nd), rightN n = true → wideN n = true → ∀ b : List Bool, b.length = w.length + 1 → Ok Try.prog 20 [nodeV n, slI w, slB b] (slB (endB (Mt w n) b))
  | .mk k s lo hi l, hr, hwi, b, hb => by
    obtain ⟨hx, hc⟩ := right_cases hr
    rw [wideN, Bool.and_eq_true, decide_eq_true_eq] at hwi
    have hkids : KidsOk w l := fun i hil c hcl => by
      have := size_at_lt hil k s lo hi
      exact ends_ok w hw (l.getD i default) (hx _ (by rw [List.getD_eq_getElem?_getD, List.getElem?_eq_getElem hil]; exact List.getElem_mem hil)) (wide_at hwi.2 hil) c hcl
    rcases hc with ⟨rfl, rfl, rfl, rfl, h0, h1⟩ | ⟨hk, rfl, rfl, rfl, rfl⟩ | ⟨hk, rfl, rfl, rfl, y1, y2, r, rfl⟩ | ⟨hk, rfl, rfl, rfl, x, rfl⟩ | ⟨rfl, rfl, h0, h1, h2, x, rfl⟩
    · exact ok_of_WP (E := EX md0 (fun _ _ => none)) (cr := noR) (cp_none _) (noR_ok _) mixed (k := 10000010) Try.func20 (lookEnds _) rfl (ends_set w hw s b hb _)
    · exact ok_of_WP (E := EX md0 (fun _ _ => none)) (cr := noR) (cp_none _) (noR_ok _) mixed (k := 10000010) Try.func20 (lookEnds _) rfl (ends_leaf w k hk b (by omega) _)
    · have hX := XK_ok hkids
      rcases hk with rfl | rfl
      · exact ok_of_WP (E := EX md0 (XK w (y1 :: y2 :: r))) (cr := noR) hX (noR_ok _) mixed (k := 10000010) Try.func20 (lookEnds _) rfl (ends_join w hw _ hwi.1 b hb _ (fun i hi c hc => XK_ends hi hc))
      · exact ok_of_WP (E := EX md0 (XK w (y1 :: y2 :: r))) (cr := noR) hX (noR_ok _) mixed (k := 10000010) Try.func20 (lookEnds _) rfl (ends_union w hw _ (by simp) hwi.1 b hb _ (fun i hi c hc => XK_ends hi hc) (fun a c => XK_both))
    · have hX : CPSound Try.prog (XE w [x] 0 0) := tab_cons (tab_cons (tab_cons (tab_cons (tab_nil _) (tRel_ok (fun args r h' => by obtain ⟨c, h1, rfl, rfl⟩ := h'; exact repeat_ok w hw x hkids 0 0 (by omega) (by omega) c h1))) (tRel_ok (fun args r h' => by obtain ⟨c, h1, rfl, rfl⟩ := h'; exact often_ok w hw x hkids c h1))) (tRel_ok RBoth_ok)) (tRel_ok (fun args r h' => by obtain ⟨i, c, h1, h2, rfl, rfl⟩ := h'; exact hkids i h1 c h2))
      exact ok_of_WP (E := EX md0 (XE w [x] 0 0)) (cr := noR) hX (noR_ok _) mixed (k := 10000010) Try.func20 (lookEnds _) rfl (ends_post w hw k hk x b hb _ (tRel_eq (RKid_fn w [x]) ⟨0, b, by simp, hb, rfl, rfl⟩) (fun a c h1 h2 => tRel_eq RBoth_fn ⟨a, c, h1, h2, rfl, rfl⟩) (tRel_eq (ROft_fn w x) ⟨b, hb, rfl, rfl⟩))
    · obtain ⟨lo', rfl⟩ : ∃ n : Nat, lo = n := ⟨lo.toNat, by omega⟩
      obtain ⟨hi', rfl⟩ : ∃ n : Nat, hi = n := ⟨hi.toNat, by omega⟩
      have hX : CPSound Try.prog (XE w [x] lo' hi') := tab_cons (tab_cons (tab_cons (tab_cons (tab_nil _) (tRel_ok (fun args r h' => by obtain ⟨c, h1', rfl, rfl⟩ := h'; exact repeat_ok w hw x hkids lo' hi' (by omega) (by omega) c h1'))) (tRel_ok (fun args r h' => by obtain ⟨c, h1, rfl, rfl⟩ := h'; exact often_ok w hw x hkids c h1))) (tRel_ok RBoth_ok)) (tRel_ok (fun args r h' => by obtain ⟨i, c, h1, h2, rfl, rfl⟩ := h'; exact hkids i h1 c h2))
      exact ok_of_WP (E := EX md0 (XE w [x] lo' hi')) (cr := noR) hX (noR_ok _) mixed (k := 10000010) Try.func20 (lookEnds _) rfl (ends_rep w hw lo' hi' x b hb _ (tRel_eq (RRp_fn w x lo' hi') ⟨b, hb, rfl, rfl⟩))
termination_by n => SizeOf.sizeOf n
decreasing_by
  exact this
/-! ### Match -/
theorem lookMatch (X) : lookedAt (EX md0 X) (fun r => if r = 1 then some [(0, 5)] else none) 2 Try.f10 = true := by kernel_rfl
open Classical in
noncomputable def matchN (n : Nd) (w : List Int) : Bool := decide (Mt w n 0 w.length)
def REnd (n : Nd) (w : List Int) (args : List AV) (r : AV) : Prop := ∃ b : List Bool, b.length = w.length + 1 ∧ args = [nodeV n, slI w, slB b] ∧ r = slB (endB (Mt w n) b)
theorem REnd_fn (n w) : Fun1 (REnd n w) := by
  rintro args r r' ⟨b, _, rfl, rfl⟩ ⟨b', _, h, rfl⟩
  simp only [List.cons.injEq, AV.sl.injEq, and_true, true_and] at h
  rw [cB_inj h.2]
def ROn5 (args : List AV) (r : AV) : Prop := ∃ n : Nat, 0 < n ∧ n ≤ 10000000 ∧ args = [.int .i64 n, .int .i64 0] ∧ r = slB (oneB n)
theorem ROn5_fn : Fun1 ROn5 := by
  rintro args r r' ⟨n, _, _, rfl, rfl⟩ ⟨n', _, _, h, rfl⟩
  simp only [List.cons.injEq, AV.int.injEq, and_true, true_and] at h
  have : n = n' := by omega
  rw [this]
theorem match_ok (n : Nd) (w : List Int) (hr : rightN n = true) (hwi : wideN n = true) (hw : w.length ≤ 1000000) : Ok Try.prog 10 [nodeV n, slI w] (.bool (matchN n w)) := by
  refine ok_of_WP (E := EX md0 (tabLook [(20, tRel (REnd n w)), (21, tRel ROn5)])) (cr := noR) (tab_cons (tab_cons (tab_nil _) (tRel_ok (fun args r h => by obtain ⟨m, h1, h2, rfl, rfl⟩ := h; exact one5_ok m h1 h2))) (tRel_ok (fun args r h => by obtain ⟨b, h1, rfl, rfl⟩ := h; exact ends_ok w hw n hr hwi b h1))) (noR_ok _) mixed (k := 10) Try.func10 (lookMatch _) rfl ?_
  have hol : (oneB (w.length + 1)).length = w.length + 1 := by simp [oneB]
  have e1 : tabLook [(20, tRel (REnd n w)), (21, tRel ROn5)] 21 [.int .i64 ((w.length + 1 : Nat) : Int), .int .i64 0] = some (slB (oneB (w.length + 1))) := tRel_eq ROn5_fn ⟨w.length + 1, by omega, by omega, rfl, rfl⟩
  have e2 : tabLook [(20, tRel (REnd n w)), (21, tRel ROn5)] 20 [nodeV n, slI w, slB (oneB (w.length + 1))] = some (slB (endB (Mt w n) (oneB (w.length + 1)))) := tRel_eq (REnd_fn n w) ⟨_, hol, rfl, rfl⟩
  have e3 : ((w.length + 1 : Nat) : Int) = (w.length : Int) + 1 := by omega
  rw [e3] at e1
  have hel : (endB (Mt w n) (oneB (w.length + 1))).length = w.length + 1 := by rw [endB_length, hol]
  have hone : ∀ i, (oneB (w.length + 1)).getD i false = true ↔ i = 0 := fun i => by
    rw [oneB, getD_setB]
    split
    · rename_i h; exact ⟨fun _ => h.1.symm, fun _ => rfl⟩
    · rename_i h
      have : (List.replicate (w.length + 1) false).getD i false = false := by
        rw [List.getD_eq_getElem?_getD, List.getElem?_replicate]
        split <;> rfl
      rw [this]
      constructor
      · intro h'; cases h'
      · rintro rfl
        exact absurd ⟨rfl, by simp⟩ h
  have hget := cB_get (l := endB (Mt w n) (oneB (w.length + 1))) (i := w.length) (s := 1) (by omega)
  have hm : (endB (Mt w n) (oneB (w.length + 1))).getD w.length false = matchN n w := by
    classical
    rw [Bool.eq_iff_iff, endB_get, hol, matchN, decide_eq_true_eq]
    constructor
    · rintro ⟨_, i, h1, h2⟩
      rw [hone] at h1
      subst h1
      exact h2
    · exact fun h => ⟨by omega, 0, (hone 0).2 rfl, h⟩
  rw [hm] at hget
  obtain ⟨k, s, lo, hi, l⟩ := n
  simp only [nodeV, cNd_mk] at e2
  simp only [Try.f10, Option.getD_some, nodeV, cNd_mk]
  generalize endB (Mt w (.mk k s lo hi l)) (oneB (w.length + 1)) = R at *
  generalize oneB (w.length + 1) = O at *
  have n1 : (1 : Nat) = 1 := rfl
  simp (disch := omega) only [go_sem, ↓IntWalk.iteOmega, IntWalk.toNatUp, Nat.reduceEqDiff, Nat.reduceAdd, Nat.reduceMul, Nat.reduceSub, Nat.reduceLT, Nat.reduceLeDiff, Int.reduceToNat, Int.reduceLT, Int.reduceLE, Int.reduceEq, Int.reduceAdd, Int.reduceSub, Int.reduceMul, Int.toNat_natCast, reduceCtorEq, decide_true, decide_false, IntWalk.i64_in, IntWalk.u64_in, IntWalk.u8_in, e1, e2, hget, hel]
end Go.Proofs.Ytfmijoglolecgaa.A
namespace Go.Proofs.Ytfmijoglolecgaa.A
open Go
set_option maxRecDepth 20000
def TKn (args : List AV) (r : AV) : Prop := args = [] ∧ r = .bool true
theorem TKn_fn : Fun1 TKn := by rintro args r r' ⟨_, rfl⟩ ⟨_, rfl⟩; rfl
def TFew (args : List AV) (r : AV) : Prop := ∃ l, args = [slR l] ∧ r = .bool (fewR l)
theorem TFew_fn : Fun1 TFew := by
  rintro args r r' ⟨x, rfl, rfl⟩ ⟨x', h, rfl⟩
  simp only [List.cons.injEq, AV.sl.injEq, and_true] at h
  rw [cRws_inj h.2]
def TOne (args : List AV) (r : AV) : Prop := ∃ l, args = [slR l] ∧ r = nodeV (oneN l)
theorem TOne_fn : Fun1 TOne := by
  rintro args r r' ⟨x, rfl, rfl⟩ ⟨x', h, rfl⟩
  simp only [List.cons.injEq, AV.sl.injEq, and_true] at h
  rw [cRws_inj h.2]
def TBld (args : List AV) (r : AV) : Prop := ∃ x, okN x = true ∧ hN x ≤ 1000 ∧ args = [nodeV x] ∧ r = builtV (bPart x b0)
theorem TBld_fn : Fun1 TBld := by
  rintro args r r' ⟨x, _, _, rfl, rfl⟩ ⟨x', _, _, h, rfl⟩
  simp only [List.cons.injEq, AV.agg.injEq, and_true] at h
  rw [cNd_inj h]
theorem nfaV_injT {N S F N' S' F' : Int} {ss ss' : List (Int × Int × Int)} {fs fs' : List (Int × Int)} (h : nfaV N S F ss fs = nfaV N' S' F' ss' fs') : N = N' ∧ S = S' ∧ F = F' ∧ ss = ss' ∧ fs = fs' := by
  simp only [nfaV, AV.agg.injEq, List.cons.injEq, AV.int.injEq, AV.sl.injEq, true_and, and_true] at h
  exact ⟨h.1, h.2.1, h.2.2.1, cS_inj h.2.2.2.1.2, cP_inj h.2.2.2.2.2⟩
def TRun (args : List AV) (r : AV) : Prop := ∃ (N : Nat) (S F : Int) (ss : List (Int × Int × Int)) (fs : List (Int × Int)) (w : List Int), Wf N S F ss fs ∧ w.length ≤ 1000000 ∧ args = [nfaV N S F ss fs, slI w] ∧ r = .bool (runB N S F ss fs w)
theorem TRun_fn : Fun1 TRun := by
  rintro args r r' ⟨N, S, F, ss, fs, w, _, _, rfl, rfl⟩ ⟨N', S', F', ss', fs', w', _, _, h, rfl⟩
  simp only [List.cons.injEq, AV.sl.injEq, and_true] at h
  obtain ⟨h1, h2, h3, h4, h5⟩ := nfaV_injT h.1
  have h1 : N = N' := by omega
  subst h1; subst h2; subst h3; subst h4; subst h5
  rw [cI_inj h.2.2]
def TMat (args : List AV) (r : AV) : Prop := ∃ (n : Nd) (w : List Int), rightN n = true ∧ wideN n = true ∧ w.length ≤ 1000000 ∧ args = [nodeV n, slI w] ∧ r = .bool (matchN n w)
theorem TMat_fn : Fun1 TMat := by
  rintro args r r' ⟨n, w, _, _, _, rfl, rfl⟩ ⟨n', w', _, _, _, h, rfl⟩
  simp only [List.cons.injEq, AV.agg.injEq, AV.sl.injEq, and_true] at h
  rw [cNd_inj h.1, cI_inj h.2.2]
noncomputable def XT : FuncId → List AV → Option AV := tabLook [(4, tRel TKn), (5, tRel TFew), (6, tRel TOne), (7, tRel TBld), (8, tRel RWord), (9, tRel TRun), (10, tRel TMat)]
theorem XT_ok : CPSound Try.prog XT := tab_cons (tab_cons (tab_cons (tab_cons (tab_cons (tab_cons (tab_cons (tab_nil _) (tRel_ok (fun args r h => by obtain ⟨n, w, h1, h2, h3, rfl, rfl⟩ := h; exact match_ok n w h1 h2 h3))) (tRel_ok (fun args r h => by obtain ⟨N, S, F, ss, fs, w, h1, h2, rfl, rfl⟩ := h; exact nfaRun_ok N S F ss fs h1 w h2))) (tRel_ok RWord_ok)) (tRel_ok (fun args r h => by obtain ⟨x, h1, h2, rfl, rfl⟩ := h; exact nfaBuild_ok h1 h2))) (tRel_ok (fun args r h => by obtain ⟨l, rfl, rfl⟩ := h; exact one_ok l))) (tRel_ok (fun args r h => by obtain ⟨l, rfl, rfl⟩ := h; exact few4_ok l))) (tRel_ok (fun args r h => by obtain ⟨rfl, rfl⟩ := h; exact known_ok))
theorem XT_word (ns : List Int) (k : Nat) (few : Int) (hk : k ≤ 1000) : XT 8 [slI ns, .int .i64 k, .int .i64 few] = some (slI (wordOf ns k few)) := tRel_eq (R := RWord) RWord_fn ⟨ns, k, few, ⟨by omega, by omega⟩, rfl, rfl⟩
theorem lookTakes (X) : lookedAt (EX md0 X) (fun _ => none) 3 Try.f3 = true := by kernel_rfl
theorem takes_ok (l : List Rw) (ns : List Int) (few : Int) : Ok Try.prog 3 [slR l, slI ns, .int .i64 few] (.bool true) := by
  refine ok_of_WP (E := EX md0 XT) (cr := noR) XT_ok (noR_ok _) mixed (k := 20) Try.func3 (lookTakes _) rfl ?_
  have hkn : XT 4 [] = some (.bool true) := tRel_eq (R := TKn) TKn_fn ⟨rfl, rfl⟩
  have hfw : XT 5 [slR l] = some (.bool (fewR l)) := tRel_eq (R := TFew) TFew_fn ⟨_, rfl, rfl⟩
  have hon : XT 6 [slR l] = some (nodeV (oneN l)) := tRel_eq (R := TOne) TOne_fn ⟨_, rfl, rfl⟩
  have hword := XT_word ns
  simp only [Try.f3, Option.getD_some]
  by_cases hf : fewR l = true
  · obtain ⟨t1, t2, t3⟩ := oneN_ok hf
    obtain ⟨r1, r2, _⟩ := oneN_okR hf
    have r2 := slim_wide _ r2
    have hnb : XT 7 [nodeV (oneN l)] = some (builtV (bPart (oneN l) b0)) := tRel_eq (R := TBld) TBld_fn ⟨_, okQ_N _ t1, by omega, rfl, rfl⟩
    have hmat : ∀ w : List Int, w.length ≤ 1000000 → XT 10 [nodeV (oneN l), slI w] = some (.bool (matchN (oneN l) w)) := fun w hw => tRel_eq (R := TMat) TMat_fn ⟨_, _, r1, r2, hw, rfl, rfl⟩
    rw [hf] at hfw
    by_cases hn : (bPart (oneN l) b0).2.n > 1000
    · have e : builtV (bPart (oneN l) b0) = .tup [nfaV 0 0 0 [] [], .int .i64 4] := if_pos hn
      rw [e] at hnb
      generalize oneN l = x at *
      obtain ⟨k, s, lo, hi, c⟩ := x
      simp only [nodeV, cNd_mk] at hon hnb
      simp (disch := omega) only [go_sem, ↓IntWalk.iteOmega, IntWalk.toNatUp, Nat.reduceEqDiff, Nat.reduceAdd, Nat.reduceMul, Nat.reduceSub, Nat.reduceLT, Nat.reduceLeDiff, Int.reduceToNat, Int.reduceLT, Int.reduceLE, Int.reduceEq, Int.reduceAdd, Int.reduceSub, Int.reduceMul, Int.toNat_natCast, reduceCtorEq, decide_true, decide_false, IntWalk.i64_in, IntWalk.u64_in, IntWalk.u8_in, hkn, hfw, hon, hnb]
    · have e : builtV (bPart (oneN l) b0) = .tup [nfaV (bPart (oneN l) b0).2.n (bPart (oneN l) b0).1.1 (bPart (oneN l) b0).1.2 (bPart (oneN l) b0).2.s (bPart (oneN l) b0).2.f, .int .i64 0] := if_neg hn
      rw [e] at hnb
      obtain ⟨hw, hss⟩ := built_wf (okQ_N _ t1) t2 (by omega)
      have hrm := run_Mt r1 (show (bPart (oneN l) ⟨0, [], []⟩).2.n ≤ 1000 by show (bPart (oneN l) b0).2.n ≤ 1000; omega) hw
      have hrun : ∀ w : List Int, w.length ≤ 1000000 → XT 9 [nfaV (bPart (oneN l) b0).2.n (bPart (oneN l) b0).1.1 (bPart (oneN l) b0).1.2 (bPart (oneN l) b0).2.s (bPart (oneN l) b0).2.f, slI w] = some (.bool (matchN (oneN l) w)) := fun w hlw => by
        have e2 : runB (bPart (oneN l) b0).2.n (bPart (oneN l) b0).1.1 (bPart (oneN l) b0).1.2 (bPart (oneN l) b0).2.s (bPart (oneN l) b0).2.f w = matchN (oneN l) w := by
          classical
          rw [Bool.eq_iff_iff, matchN, decide_eq_true_eq]
          exact hrm w
        rw [← e2]
        exact tRel_eq (R := TRun) TRun_fn ⟨_, _, _, _, _, _, hw, hlw, rfl, rfl⟩
      clear hrm hw hss e
      generalize (bPart (oneN l) b0).2.n = N at *
      generalize (bPart (oneN l) b0).1.1 = S at *
      generalize (bPart (oneN l) b0).1.2 = F at *
      generalize (bPart (oneN l) b0).2.s = ss at *
      generalize (bPart (oneN l) b0).2.f = fs at *
      generalize oneN l = x at *
      generalize matchN x = mt at *
      obtain ⟨k, s, lo, hi, c⟩ := x
      simp only [nodeV, cNd_mk] at hon hnb hmat
      simp (disch := omega) only [go_sem, ↓IntWalk.iteOmega, IntWalk.toNatUp, Nat.reduceEqDiff, Nat.reduceAdd, Nat.reduceMul, Nat.reduceSub, Nat.reduceLT, Nat.reduceLeDiff, Int.reduceToNat, Int.reduceLT, Int.reduceLE, Int.reduceEq, Int.reduceAdd, Int.reduceSub, Int.reduceMul, Int.toNat_natCast, reduceCtorEq, decide_true, decide_false, IntWalk.i64_in, IntWalk.u64_in, IntWalk.u8_in, hkn, hfw, hon, hnb]
      refine WP_loop (fun m a o nx => ∃ i : Nat, i ≤ 9 ∧ m = 9 - i ∧ 5 ≤ nx ∧ a 1 = slI ns ∧ a 2 = .int .i64 few ∧ a 7 = .ptr (3, 7) (3, 7) 0 ∧ o (3, 7) = some (.row ⟨28, 1, (3, 7), false, true, [.int .i64 k, .int .i64 s, .int .i64 lo, .int .i64 hi, slN c]⟩) ∧ a 8 = .ptr (4, 8) (4, 8) 0 ∧ o (4, 8) = some (.row ⟨33, 1, (4, 8), false, true, [.int .i64 N, .int .i64 S, .int .i64 F, .sl ss.length (cS ss), .sl fs.length (cP fs)]⟩) ∧ a 10 = .int .i64 i) 9 (by omega) ⟨0, by omega, by omega, by omega, by simp (disch := omega) only [go_sem, ↓IntWalk.iteOmega, IntWalk.toNatUp, Nat.reduceEqDiff, Nat.reduceAdd, Nat.reduceMul, Nat.reduceSub, Nat.reduceLT, Nat.reduceLeDiff, Int.reduceToNat, Int.reduceLT, Int.reduceLE, Int.reduceEq, Int.reduceAdd, Int.reduceSub, Int.reduceMul, Int.toNat_natCast, reduceCtorEq, decide_true, decide_false, IntWalk.i64_in, IntWalk.u64_in, IntWalk.u8_in], by simp (disch := omega) only [go_sem, ↓IntWalk.iteOmega, IntWalk.toNatUp, Nat.reduceEqDiff, Nat.reduceAdd, Nat.reduceMul, Nat.reduceSub, Nat.reduceLT, Nat.reduceLeDiff, Int.reduceToNat, Int.reduceLT, Int.reduceLE, Int.reduceEq, Int.reduceAdd, Int.reduceSub, Int.reduceMul, Int.toNat_natCast, reduceCtorEq, decide_true, decide_false, IntWalk.i64_in, IntWalk.u64_in, IntWalk.u8_in], by simp (disch := omega) only [go_sem, ↓IntWalk.iteOmega, IntWalk.toNatUp, Nat.reduceEqDiff, Nat.reduceAdd, Nat.reduceMul, Nat.reduceSub, Nat.reduceLT, Nat.reduceLeDiff, Int.reduceToNat, Int.reduceLT, Int.reduceLE, Int.reduceEq, Int.reduceAdd, Int.reduceSub, Int.reduceMul, Int.toNat_natCast, reduceCtorEq, decide_true, decide_false, IntWalk.i64_in, IntWalk.u64_in, IntWalk.u8_in], by simp (disch := omega) only [go_sem, ↓IntWalk.iteOmega, IntWalk.toNatUp, Nat.reduceEqDiff, Nat.reduceAdd, Nat.reduceMul, Nat.reduceSub, Nat.reduceLT, Nat.reduceLeDiff, Int.reduceToNat, Int.reduceLT, Int.reduceLE, Int.reduceEq, Int.reduceAdd, Int.reduceSub, Int.reduceMul, Int.toNat_natCast, reduceCtorEq, decide_true, decide_false, IntWalk.i64_in, IntWalk.u64_in, IntWalk.u8_in], by simp (disch := omega) only [go_sem, ↓IntWalk.iteOmega, IntWalk.toNatUp, Nat.reduceEqDiff, Nat.reduceAdd, Nat.reduceMul, Nat.reduceSub, Nat.reduceLT, Nat.reduceLeDiff, Int.reduceToNat, Int.reduceLT, Int.reduceLE, Int.reduceEq, Int.reduceAdd, Int.reduceSub, Int.reduceMul, Int.toNat_natCast, reduceCtorEq, decide_true, decide_false, IntWalk.i64_in, IntWalk.u64_in, IntWalk.u8_in], by simp (disch := omega) only [go_sem, ↓IntWalk.iteOmega, IntWalk.toNatUp, Nat.reduceEqDiff, Nat.reduceAdd, Nat.reduceMul, Nat.reduceSub, Nat.reduceLT, Nat.reduceLeDiff, Int.reduceToNat, Int.reduceLT, Int.reduceLE, Int.reduceEq, Int.reduceAdd, Int.reduceSub, Int.reduceMul, Int.toNat_natCast, reduceCtorEq, decide_true, decide_false, IntWalk.i64_in, IntWalk.u64_in, IntWalk.u8_in], by simp (disch := omega) only [go_sem, ↓IntWalk.iteOmega, IntWalk.toNatUp, Nat.reduceEqDiff, Nat.reduceAdd, Nat.reduceMul, Nat.reduceSub, Nat.reduceLT, Nat.reduceLeDiff, Int.reduceToNat, Int.reduceLT, Int.reduceLE, Int.reduceEq, Int.reduceAdd, Int.reduceSub, Int.reduceMul, Int.toNat_natCast, reduceCtorEq, decide_true, decide_false, IntWalk.i64_in, IntWalk.u64_in, IntWalk.u8_in]⟩ ?_
      rintro m a o nx ⟨i, hi, rfl, hnx, a1, a2, a7, o7, a8, o8, a10⟩
      by_cases hlt : i < 9
      · have hwd := hword i few (by omega)
        have hwl := wordOf_le ns i few
        have hr1 := hrun (wordOf ns i few) (by omega)
        have hm1 := hmat (wordOf ns i few) (by omega)
        generalize wordOf ns i few = w at *
        simp (disch := omega) only [go_sem, ↓IntWalk.iteOmega, IntWalk.toNatUp, Nat.reduceEqDiff, Nat.reduceAdd, Nat.reduceMul, Nat.reduceSub, Nat.reduceLT, Nat.reduceLeDiff, Int.reduceToNat, Int.reduceLT, Int.reduceLE, Int.reduceEq, Int.reduceAdd, Int.reduceSub, Int.reduceMul, Int.toNat_natCast, reduceCtorEq, decide_true, decide_false, IntWalk.i64_in, IntWalk.u64_in, IntWalk.u8_in, a1, a2, a7, a8, a10, o7, o8, hwd, hr1, hm1]
        exact ⟨_, by omega, i + 1, by omega, rfl, by omega, rfl⟩
      · simp (disch := omega) only [go_sem, ↓IntWalk.iteOmega, IntWalk.toNatUp, Nat.reduceEqDiff, Nat.reduceAdd, Nat.reduceMul, Nat.reduceSub, Nat.reduceLT, Nat.reduceLeDiff, Int.reduceToNat, Int.reduceLT, Int.reduceLE, Int.reduceEq, Int.reduceAdd, Int.reduceSub, Int.reduceMul, Int.toNat_natCast, reduceCtorEq, decide_true, decide_false, IntWalk.i64_in, IntWalk.u64_in, IntWalk.u8_in, a1, a2, a7, a8, a10, o7, o8]
  · rw [Bool.not_eq_true] at hf
    rw [hf] at hfw
    simp (disch := omega) only [go_sem, ↓IntWalk.iteOmega, IntWalk.toNatUp, Nat.reduceEqDiff, Nat.reduceAdd, Nat.reduceMul, Nat.reduceSub, Nat.reduceLT, Nat.reduceLeDiff, Int.reduceToNat, Int.reduceLT, Int.reduceLE, Int.reduceEq, Int.reduceAdd, Int.reduceSub, Int.reduceMul, Int.toNat_natCast, reduceCtorEq, decide_true, decide_false, IntWalk.i64_in, IntWalk.u64_in, IntWalk.u8_in, hkn, hfw]
end Go.Proofs.Ytfmijoglolecgaa.A

namespace Go.Proofs.Ytfmijoglolecgaa
open Go Go.Proofs.Ytfmijoglolecgaa.A
set_option maxRecDepth 100000 in
theorem nfaTakes_lifted (os : Os) (started : os.Started) (H : Type) (enc : TypeId × Value → H) :
    ReturnsInHanded {} Try.checked os 3 .any (Rows.nfaTakesSpec.pre6 enc Try.prog Try.f3 Rows.nfaTakesRow.domain false) (Rows.nfaTakesSpec.post enc Try.prog Try.f3 false true false false) :=
  law_lifted (C := Try.checked) Try.own started (by kernel_rfl) Try.func3
    (ChangeSpec.witness6 (enc := enc) (C := Try.checked) false ⟨#[], #[.slice none 0 0, .slice none 0 0, .int .i64 0], []⟩ 8 (by kernel_rfl) (by kernel_rfl) (by kernel_rfl) (by kernel_rfl))
    Try.laidOut (ks := [22, 23, 3, 45]) (by kernel_rfl) (by kernel_rfl) (tb := 4) (by kernel_rfl) (by kernel_rfl) rfl
    (fun ds hds => by
      match ds, hds with
      | [_, _, _], _ => exact ⟨rfl, rfl, rfl⟩)
    (fun _ x hx => by cases hx) (fun xs hxs => by
      rw [show Try.f3.params.toList = [22, 23, 3] from rfl] at hxs
      match xs, hxs with
      | [x1, x2, x3], ⟨h1, h2, h3, _⟩ =>
        obtain ⟨n1, rfl⟩ := arg_raws h1
        obtain ⟨n2, rfl, _⟩ := arg_ints (e := 3) (by kernel_rfl) (by kernel_rfl) h2
        obtain ⟨n3, rfl, _⟩ := arg_int (k := .i64) (by kernel_rfl) h3
        exact takes_ok n1 n2 n3)
theorem nfaTakes_holds : Rows.NfaTakesSaid :=
  OpenClaim.holds_of_wide 3 Try.f3 rfl rfl rfl rfl rfl rfl rfl ⟨rfl, rfl, rfl, rfl, rfl⟩ rfl rfl rfl rfl rfl (by kernel_rfl) Try.func3 (by kernel_rfl)
    (of_decide_eq_true (by kernel_rfl)) (by unfold Func.isWrapper; first | (rw [if_pos (by decide +kernel)]; kernel_rfl) | (rw [if_neg (by decide +kernel)]; exact ⟨rfl, rfl⟩))
    (fun os started H enc _ => nfaTakes_lifted os started H enc)
end Go.Proofs.Ytfmijoglolecgaa
