/- The document's Text: its contract. -/
import Derived.Test.YtmcbfbpdfbcakaaDoorMLRParts1
import Derived.Test.YtmcbfbpdfbcakaaDoorMLRParts2
import Derived.Test.YtmcbfbpdfbcakaaDoorMLRParts3
import Derived.Test.YtmcbfbpdfbcakaaDoorMLRParts4
import Derived.Test.YtmcbfbpdfbcakaaDoorMLRParts5
import Derived.Test.YtmcbfbpdfbcakaaDoorMLRParts6
import Derived.Test.YtmcbfbpdfbcakaaDoorMLRParts7
set_option linter.unusedVariables false
set_option linter.unusedSimpArgs false
set_option linter.unnecessarySimpa false
namespace Go.Proofs.YtmcbfbpdfbcakaaDoor.A
open Go
set_option maxRecDepth 20000
theorem dset_all : ((List.range 31).map fun q => (calls E4 1000).1 29 [.int .i64 ((q + 1 : Nat) : Int)]) = (List.range 31).map fun q => some (.str (setS (q + 1))) := by kernel_rfl
theorem dset_at {s : Nat} (h0 : 1 ≤ s) (h1 : s ≤ 31) : (calls E4 1000).1 29 [.int .i64 (s : Int)] = some (.str (setS s)) := by
  have := map_at dset_all (q := s - 1) (by omega)
  rwa [show s - 1 + 1 = s by omega] at this
theorem join_snoc (t : List UInt8) (sep : List UInt8) : ∀ l : List (List UInt8), Lib.join (l ++ [t]) sep = if l = [] then t else Lib.join l sep ++ sep ++ t
  | [] => by rw [List.nil_append, join_one, if_pos rfl]
  | [u] => by rw [if_neg (by simp), List.singleton_append, join_cons2, join_one, join_one]; simp
  | u :: v :: l => by
    have ih := join_snoc t sep (v :: l)
    rw [if_neg (by simp)] at ih ⊢
    have e : u :: v :: l ++ [t] = u :: v :: (l ++ [t]) := rfl
    rw [e, join_cons2, ← List.cons_append, ih, join_cons2]
    simp
/-- A part's text is the whole one, in brackets where it must be. -/
theorem text_brk {k : Int} (hk : k ≠ 0) (x : Nd) : textN k x = brkS (decide (kindN x = 5 ∨ (kindN x = 4 ∧ k ≠ 5))) (textN 0 x) := by
  obtain ⟨q, s, lo, hi, l⟩ := x
  have hq : kindN (.mk q s lo hi l) = q := rfl
  rw [hq, textN, textN]
  by_cases h1 : q = 1
  · subst h1; rw [if_pos rfl, if_pos rfl, decide_eq_false (by omega)]; rfl
  by_cases h2 : q = 2
  · subst h2; rw [if_neg h1, if_neg h1, if_pos rfl, if_pos rfl, decide_eq_false (by omega)]; rfl
  by_cases h3 : q = 3
  · subst h3; rw [if_neg h1, if_neg h1, if_neg h2, if_neg h2, if_pos rfl, if_pos rfl, decide_eq_false (by omega)]; rfl
  rw [if_neg h1, if_neg h1, if_neg h2, if_neg h2, if_neg h3, if_neg h3]
  by_cases h4 : q = 4 ∨ q = 5
  · rw [if_pos h4, if_pos h4]
    have e0 : decide ((0 : Int) ≠ 0 ∧ (q = 5 ∨ (0 : Int) ≠ 5)) = false := rfl
    rw [e0]
    have e1 : decide (k ≠ 0 ∧ (q = 5 ∨ k ≠ 5)) = decide (q = 5 ∨ (q = 4 ∧ k ≠ 5)) := by rw [Bool.eq_iff_iff]; simp only [decide_eq_true_eq]; omega
    rw [e1]
    rfl
  · rw [if_neg h4, if_neg h4, decide_eq_false (by omega)]
    rfl
theorem lookBr (X) : lookedAt (EX md0 X) (fun _ => none) 2 Tryd.f30 = true := by kernel_rfl
def RTx0 (x : Nd) (args : List AV) (r : AV) : Prop := args = [nodeV x] ∧ r = .str (textN 0 x)
theorem RTx0_fn (x) : Fun1 (RTx0 x) := by
  rintro args r r' ⟨_, rfl⟩ ⟨_, rfl⟩
  rfl
theorem bracketed_ok (k : Int) (x : Nd) (hk : k ≠ 0) (hl : (textN 0 x).length ≤ 100000000) (h : Ok Tryd.prog 15 [nodeV x] (.str (textN 0 x))) : Ok Tryd.prog 30 [.int .i64 k, nodeV x] (.str (textN k x)) := by
  refine ok_of_WP (E := EX md0 (tabLook [(15, tRel (RTx0 x))])) (cr := noR) (tab_cons (tab_nil _) (tRel_ok (fun args r h' => by obtain ⟨rfl, rfl⟩ := h'; exact h))) (noR_ok _) mixed (k := 10) Tryd.func30 (lookBr _) rfl ?_
  have hX : tabLook [(15, tRel (RTx0 x))] 15 [nodeV x] = some (.str (textN 0 x)) := tRel_eq (RTx0_fn x) ⟨rfl, rfl⟩
  rw [text_brk hk]
  generalize textN 0 x = t at *
  obtain ⟨q, s, lo, hi, l⟩ := x
  have hq : kindN (.mk q s lo hi l) = q := rfl
  rw [hq]
  simp only [nodeV, cNd_mk] at hX
  simp only [Tryd.f30, Option.getD_some, nodeV, cNd_mk]
  by_cases h5 : q = 5
  · subst h5
    rw [decide_eq_true (.inl rfl)]
    simp (disch := omega) only [go_sem, ↓IntWalk.iteOmega, IntWalk.toNatUp, Nat.reduceEqDiff, Nat.reduceAdd, Nat.reduceMul, Nat.reduceSub, Nat.reduceLT, Nat.reduceLeDiff, Int.reduceToNat, Int.reduceLT, Int.reduceLE, Int.reduceEq, Int.reduceAdd, Int.reduceSub, Int.reduceMul, Int.toNat_natCast, reduceCtorEq, decide_true, decide_false, IntWalk.i64_in, IntWalk.u64_in, IntWalk.u8_in, hX]
    simp [brkS]
  · by_cases h4 : q = 4
    · subst h4
      by_cases hk5 : k = 5
      · subst hk5
        rw [decide_eq_false (by omega)]
        simp (disch := omega) only [go_sem, ↓IntWalk.iteOmega, IntWalk.toNatUp, Nat.reduceEqDiff, Nat.reduceAdd, Nat.reduceMul, Nat.reduceSub, Nat.reduceLT, Nat.reduceLeDiff, Int.reduceToNat, Int.reduceLT, Int.reduceLE, Int.reduceEq, Int.reduceAdd, Int.reduceSub, Int.reduceMul, Int.toNat_natCast, reduceCtorEq, decide_true, decide_false, IntWalk.i64_in, IntWalk.u64_in, IntWalk.u8_in, hX]
        rfl
      · rw [decide_eq_true (by omega)]
        simp (disch := omega) only [go_sem, ↓IntWalk.iteOmega, IntWalk.toNatUp, Nat.reduceEqDiff, Nat.reduceAdd, Nat.reduceMul, Nat.reduceSub, Nat.reduceLT, Nat.reduceLeDiff, Int.reduceToNat, Int.reduceLT, Int.reduceLE, Int.reduceEq, Int.reduceAdd, Int.reduceSub, Int.reduceMul, Int.toNat_natCast, reduceCtorEq, decide_true, decide_false, IntWalk.i64_in, IntWalk.u64_in, IntWalk.u8_in, hX, hk5]
        simp [brkS]
    · rw [decide_eq_false (by omega)]
      simp (disch := omega) only [go_sem, ↓IntWalk.iteOmega, IntWalk.toNatUp, Nat.reduceEqDiff, Nat.reduceAdd, Nat.reduceMul, Nat.reduceSub, Nat.reduceLT, Nat.reduceLeDiff, Int.reduceToNat, Int.reduceLT, Int.reduceLE, Int.reduceEq, Int.reduceAdd, Int.reduceSub, Int.reduceMul, Int.toNat_natCast, reduceCtorEq, decide_true, decide_false, IntWalk.i64_in, IntWalk.u64_in, IntWalk.u8_in, hX, h5, h4]
      rfl
theorem lookDText (X) : lookedAt (EX md0 X) (fun _ => none) 1 Tryd.f15 = true := by kernel_rfl
def finDT (t : List UInt8) : WPost := fun u a o nx => (u = .normal ∨ u = .ret) ∧ wO (resultsL Tryd.prog a ⟨o, nx⟩ Tryd.f15.results.toList) (fun vs => view o vDepth (tup1 vs) = .str t)
theorem dtext_leaf (k s : Int) (h : (k = 1 ∧ 1 ≤ s ∧ s ≤ 31) ∨ (k = 2 ∧ s = 0) ∨ (k = 3 ∧ s = 0)) (X : FuncId → List AV → Option AV) (hset : ∀ s : Nat, 1 ≤ s → s ≤ 31 → X 29 [.int .i64 s] = some (.str (setS s))) :
    WP (EX md0 X) noR 1002 (fun _ => none) (Tryd.f15.body.getD .skip) (begin_ [nodeV (.mk k s 0 0 [])]) (fun _ => none) 0 (finDT (textN 0 (.mk k s 0 0 []))) := by
  simp only [Tryd.f15, Option.getD_some, nodeV, cNd_mk]
  rcases h with ⟨rfl, h0, h1⟩ | ⟨rfl, rfl⟩ | ⟨rfl, rfl⟩
  · have h2 := hset s.toNat (by omega) (by omega)
    rw [Int.toNat_of_nonneg (by omega)] at h2
    simp (disch := omega) only [go_sem, ↓IntWalk.iteOmega, IntWalk.toNatUp, Nat.reduceEqDiff, Nat.reduceAdd, Nat.reduceMul, Nat.reduceSub, Nat.reduceLT, Nat.reduceLeDiff, Int.reduceToNat, Int.reduceLT, Int.reduceLE, Int.reduceEq, Int.reduceAdd, Int.reduceSub, Int.reduceMul, Int.toNat_natCast, reduceCtorEq, decide_true, decide_false, IntWalk.i64_in, IntWalk.u64_in, IntWalk.u8_in, h2]
    refine ⟨.inr rfl, ?_⟩
    simp only [Tryd.f15]
    simp (disch := omega) only [go_sem, ↓IntWalk.iteOmega, IntWalk.toNatUp, Nat.reduceEqDiff, Nat.reduceAdd, Nat.reduceMul, Nat.reduceSub, Nat.reduceLT, Nat.reduceLeDiff, Int.reduceToNat, Int.reduceLT, Int.reduceLE, Int.reduceEq, Int.reduceAdd, Int.reduceSub, Int.reduceMul, Int.toNat_natCast, reduceCtorEq, decide_true, decide_false, IntWalk.i64_in, IntWalk.u64_in, IntWalk.u8_in]
    rw [textN, if_pos rfl]
  · simp (disch := omega) only [go_sem, ↓IntWalk.iteOmega, IntWalk.toNatUp, Nat.reduceEqDiff, Nat.reduceAdd, Nat.reduceMul, Nat.reduceSub, Nat.reduceLT, Nat.reduceLeDiff, Int.reduceToNat, Int.reduceLT, Int.reduceLE, Int.reduceEq, Int.reduceAdd, Int.reduceSub, Int.reduceMul, Int.toNat_natCast, reduceCtorEq, decide_true, decide_false, IntWalk.i64_in, IntWalk.u64_in, IntWalk.u8_in]
    refine ⟨.inr rfl, ?_⟩
    simp only [Tryd.f15]
    simp (disch := omega) only [go_sem, ↓IntWalk.iteOmega, IntWalk.toNatUp, Nat.reduceEqDiff, Nat.reduceAdd, Nat.reduceMul, Nat.reduceSub, Nat.reduceLT, Nat.reduceLeDiff, Int.reduceToNat, Int.reduceLT, Int.reduceLE, Int.reduceEq, Int.reduceAdd, Int.reduceSub, Int.reduceMul, Int.toNat_natCast, reduceCtorEq, decide_true, decide_false, IntWalk.i64_in, IntWalk.u64_in, IntWalk.u8_in]
    rw [textN, if_neg (by decide), if_pos rfl]
  · simp (disch := omega) only [go_sem, ↓IntWalk.iteOmega, IntWalk.toNatUp, Nat.reduceEqDiff, Nat.reduceAdd, Nat.reduceMul, Nat.reduceSub, Nat.reduceLT, Nat.reduceLeDiff, Int.reduceToNat, Int.reduceLT, Int.reduceLE, Int.reduceEq, Int.reduceAdd, Int.reduceSub, Int.reduceMul, Int.toNat_natCast, reduceCtorEq, decide_true, decide_false, IntWalk.i64_in, IntWalk.u64_in, IntWalk.u8_in]
    refine ⟨.inr rfl, ?_⟩
    simp only [Tryd.f15]
    simp (disch := omega) only [go_sem, ↓IntWalk.iteOmega, IntWalk.toNatUp, Nat.reduceEqDiff, Nat.reduceAdd, Nat.reduceMul, Nat.reduceSub, Nat.reduceLT, Nat.reduceLeDiff, Int.reduceToNat, Int.reduceLT, Int.reduceLE, Int.reduceEq, Int.reduceAdd, Int.reduceSub, Int.reduceMul, Int.toNat_natCast, reduceCtorEq, decide_true, decide_false, IntWalk.i64_in, IntWalk.u64_in, IntWalk.u8_in]
    rw [textN, if_neg (by decide), if_neg (by decide), if_pos rfl]
def sepN (k : Int) : List UInt8 := if k = 5 then [124] else []
theorem join_take_le (l : List (List UInt8)) (sep : List UInt8) (i : Nat) : (Lib.join (l.take i) sep).length ≤ (Lib.join l sep).length := by
  rcases Nat.lt_or_ge i l.length with h | h
  · have : ∀ (a b : List (List UInt8)), (Lib.join a sep).length ≤ (Lib.join (a ++ b) sep).length := by
      intro a b
      induction a with
      | nil => simp [Lib.join, List.intercalate]
      | cons x a ih =>
        cases a with
        | nil =>
          cases b with
          | nil => exact Nat.le_refl _
          | cons y b => rw [List.singleton_append, join_cons2, join_one, List.length_append]; omega
        | cons y a =>
          have e : x :: y :: a ++ b = x :: y :: (a ++ b) := rfl
          rw [e, join_cons2, join_cons2, List.length_append, List.length_append, List.length_append, List.length_append]
          rw [List.cons_append] at ih
          omega
    have h2 := this (l.take i) (l.drop i)
    rwa [List.take_append_drop] at h2
  · rw [List.take_of_length_le h]; omega
theorem dtext_loop (k lo hi : Int) (l : List Nd) (hk : 4 ≤ k) (hl : l.length ≤ 1000) (hlen : (Lib.join (textNs k l) (sepN k)).length ≤ 100000000) (X : FuncId → List AV → Option AV) (hch : ∀ i, i < l.length → X 30 [.int .i64 k, nodeV (l.getD i default)] = some (.str (textN k (l.getD i default)))) {Q : WPost} {a : AAct} {o : Ob} {nx : Nat} (hnx : 1 ≤ nx)
    (a1 : a 1 = .ptr (0, 1) (0, 1) 0) (a3 : a 3 = .str []) (a4 : a 4 = .int .i64 0) (ho : o (0, 1) = some (.row ⟨29, 1, (0, 1), false, true, [.int .i64 k, .int .i64 0, .int .i64 lo, .int .i64 hi, slN l]⟩))
    (hQ : ∀ a o nx, 1 ≤ nx → a 1 = .ptr (0, 1) (0, 1) 0 → a 3 = .str (Lib.join (textNs k l) (sepN k)) → o (0, 1) = some (.row ⟨29, 1, (0, 1), false, true, [.int .i64 k, .int .i64 0, .int .i64 lo, .int .i64 hi, slN l]⟩) → Q .normal a o nx) :
    WP (EX md0 X) noR 1002 (fun _ => none) (pathC [1, 1, 1, 0, 1, 0] (Tryd.f15.body.getD .skip)) a o nx (blockQ 1 Q) := by
  simp only [Tryd.f15, Option.getD_some, pathC]
  rw [textNs_map] at hlen hQ
  refine WP_loop (fun m a o nx => ∃ i : Nat, i ≤ l.length ∧ m = l.length - i ∧ 1 ≤ nx ∧ a 1 = .ptr (0, 1) (0, 1) 0 ∧ a 3 = .str (Lib.join ((l.take i).map (textN k)) (sepN k)) ∧ a 4 = .int .i64 i ∧ o (0, 1) = some (.row ⟨29, 1, (0, 1), false, true, [.int .i64 k, .int .i64 0, .int .i64 lo, .int .i64 hi, slN l]⟩)) l.length (by omega) ⟨0, by omega, by omega, by omega, a1, a3, a4, ho⟩ ?_
  clear a1 a3 a4 ho hnx
  rintro m a o nx ⟨i, hi, rfl, hnx, a1, a3, a4, ho⟩
  by_cases hlt : i < l.length
  · have hat := cNds_at hlt
    have hci := hch i hlt
    have htk := take_succ_getD hlt default
    have hle := join_take_le (l.map (textN k)) (sepN k) (i + 1)
    rw [← List.map_take, htk, List.map_append] at hle
    have hsn := join_snoc (textN k (l.getD i default)) (sepN k) ((l.take i).map (textN k))
    have hnil : (l.take i).map (textN k) = [] ↔ i = 0 := by
      constructor
      · intro e
        have := congrArg List.length e
        rw [List.length_map, List.length_take] at this
        simp at this
        rcases this with h | h
        · exact h
        · rw [h] at hlt; simp at hlt
      · rintro rfl; rfl
    have hle' : (Lib.join ((l.take i).map (textN k) ++ [textN k (l.getD i default)]) (sepN k)).length ≤ 100000000 := Nat.le_trans hle hlen
    simp only [nodeV] at hci
    have hres : (l.take (i + 1)).map (textN k) = (l.take i).map (textN k) ++ [textN k (l.getD i default)] := by rw [htk, List.map_append]; rfl
    clear htk hle
    generalize l.getD i default = x at *
    by_cases h0 : i = 0
    · rw [if_pos (hnil.2 h0)] at hsn
      rw [hsn] at hle'
      rw [hnil.2 h0] at a3
      have e0 : Lib.join [] (sepN k) = [] := rfl
      rw [e0] at a3
      simp (disch := omega) only [go_sem, ↓IntWalk.iteOmega, IntWalk.toNatUp, Nat.reduceEqDiff, Nat.reduceAdd, Nat.reduceMul, Nat.reduceSub, Nat.reduceLT, Nat.reduceLeDiff, Int.reduceToNat, Int.reduceLT, Int.reduceLE, Int.reduceEq, Int.reduceAdd, Int.reduceSub, Int.reduceMul, Int.toNat_natCast, reduceCtorEq, decide_true, decide_false, IntWalk.i64_in, IntWalk.u64_in, IntWalk.u8_in, a1, a3, a4, ho, hat, hci]
      exact ⟨_, by omega, i + 1, by omega, rfl, by rw [hres, hsn], rfl⟩
    · rw [if_neg (fun e => h0 (hnil.1 e))] at hsn
      rw [hsn, List.length_append, List.length_append] at hle'
      by_cases h5 : k = 5
      · subst h5
        have hs5 : sepN 5 = [124] := rfl
        rw [hs5] at hsn hle' a3
        simp only [List.length_singleton] at hle'
        simp (disch := omega) only [go_sem, ↓IntWalk.iteOmega, IntWalk.toNatUp, Nat.reduceEqDiff, Nat.reduceAdd, Nat.reduceMul, Nat.reduceSub, Nat.reduceLT, Nat.reduceLeDiff, Int.reduceToNat, Int.reduceLT, Int.reduceLE, Int.reduceEq, Int.reduceAdd, Int.reduceSub, Int.reduceMul, Int.toNat_natCast, reduceCtorEq, decide_true, decide_false, IntWalk.i64_in, IntWalk.u64_in, IntWalk.u8_in, a1, a3, a4, ho, hat, hci]
        exact ⟨_, by omega, i + 1, by omega, rfl, by rw [hres, hs5, hsn], rfl⟩
      · have hs5 : sepN k = [] := if_neg h5
        rw [hs5] at hsn hle' a3
        simp (disch := omega) only [go_sem, ↓IntWalk.iteOmega, IntWalk.toNatUp, Nat.reduceEqDiff, Nat.reduceAdd, Nat.reduceMul, Nat.reduceSub, Nat.reduceLT, Nat.reduceLeDiff, Int.reduceToNat, Int.reduceLT, Int.reduceLE, Int.reduceEq, Int.reduceAdd, Int.reduceSub, Int.reduceMul, Int.toNat_natCast, reduceCtorEq, decide_true, decide_false, IntWalk.i64_in, IntWalk.u64_in, IntWalk.u8_in, a1, a3, a4, ho, hat, hci, h5]
        exact ⟨_, by omega, i + 1, by omega, rfl, by rw [hres, hs5, hsn, List.append_nil], rfl⟩
  · have hie : i = l.length := by omega
    rw [hie, List.take_length] at a3
    simp (disch := omega) only [go_sem, ↓IntWalk.iteOmega, IntWalk.toNatUp, Nat.reduceEqDiff, Nat.reduceAdd, Nat.reduceMul, Nat.reduceSub, Nat.reduceLT, Nat.reduceLeDiff, Int.reduceToNat, Int.reduceLT, Int.reduceLE, Int.reduceEq, Int.reduceAdd, Int.reduceSub, Int.reduceMul, Int.toNat_natCast, reduceCtorEq, decide_true, decide_false, IntWalk.i64_in, IntWalk.u64_in, IntWalk.u8_in, a1, a3, a4, ho]
    exact hQ _ _ _ (by omega) (by simp (disch := omega) only [go_sem, ↓IntWalk.iteOmega, IntWalk.toNatUp, Nat.reduceEqDiff, Nat.reduceAdd, Nat.reduceMul, Nat.reduceSub, Nat.reduceLT, Nat.reduceLeDiff, Int.reduceToNat, Int.reduceLT, Int.reduceLE, Int.reduceEq, Int.reduceAdd, Int.reduceSub, Int.reduceMul, Int.toNat_natCast, reduceCtorEq, decide_true, decide_false, IntWalk.i64_in, IntWalk.u64_in, IntWalk.u8_in, a1]) (by simp (disch := omega) only [go_sem, ↓IntWalk.iteOmega, IntWalk.toNatUp, Nat.reduceEqDiff, Nat.reduceAdd, Nat.reduceMul, Nat.reduceSub, Nat.reduceLT, Nat.reduceLeDiff, Int.reduceToNat, Int.reduceLT, Int.reduceLE, Int.reduceEq, Int.reduceAdd, Int.reduceSub, Int.reduceMul, Int.toNat_natCast, reduceCtorEq, decide_true, decide_false, IntWalk.i64_in, IntWalk.u64_in, IntWalk.u8_in, a3]) ho
theorem dtext_many (k : Int) (l : List Nd) (hk : k = 4 ∨ k = 5) (hl : l.length ≤ 1000) (hlen : (textN 0 (.mk k 0 0 0 l)).length ≤ 100000000) (X : FuncId → List AV → Option AV) (hch : ∀ i, i < l.length → X 30 [.int .i64 k, nodeV (l.getD i default)] = some (.str (textN k (l.getD i default)))) :
    WP (EX md0 X) noR 1002 (fun _ => none) (Tryd.f15.body.getD .skip) (begin_ [nodeV (.mk k 0 0 0 l)]) (fun _ => none) 0 (finDT (textN 0 (.mk k 0 0 0 l))) := by
  have ht : textN 0 (.mk k 0 0 0 l) = Lib.join (textNs k l) (sepN k) := by
    rw [textN, if_neg (by omega), if_neg (by omega), if_neg (by omega), if_pos hk]
    rfl
  rw [ht] at hlen ⊢
  simp only [Tryd.f15, Option.getD_some, nodeV, cNd_mk]
  rcases hk with rfl | rfl
  · simp (disch := omega) only [go_sem, ↓IntWalk.iteOmega, IntWalk.toNatUp, Nat.reduceEqDiff, Nat.reduceAdd, Nat.reduceMul, Nat.reduceSub, Nat.reduceLT, Nat.reduceLeDiff, Int.reduceToNat, Int.reduceLT, Int.reduceLE, Int.reduceEq, Int.reduceAdd, Int.reduceSub, Int.reduceMul, Int.toNat_natCast, reduceCtorEq, decide_true, decide_false, IntWalk.i64_in, IntWalk.u64_in, IntWalk.u8_in]
    refine dtext_loop 4 0 0 l (by omega) hl hlen X hch (by omega) rfl rfl rfl rfl (fun a o nx hnx a1 a3 ho => ?_)
    simp (disch := omega) only [go_sem, ↓IntWalk.iteOmega, IntWalk.toNatUp, Nat.reduceEqDiff, Nat.reduceAdd, Nat.reduceMul, Nat.reduceSub, Nat.reduceLT, Nat.reduceLeDiff, Int.reduceToNat, Int.reduceLT, Int.reduceLE, Int.reduceEq, Int.reduceAdd, Int.reduceSub, Int.reduceMul, Int.toNat_natCast, reduceCtorEq, decide_true, decide_false, IntWalk.i64_in, IntWalk.u64_in, IntWalk.u8_in, a1, a3, ho]
    refine ⟨.inr rfl, ?_⟩
    simp only [Tryd.f15]
    simp (disch := omega) only [go_sem, ↓IntWalk.iteOmega, IntWalk.toNatUp, Nat.reduceEqDiff, Nat.reduceAdd, Nat.reduceMul, Nat.reduceSub, Nat.reduceLT, Nat.reduceLeDiff, Int.reduceToNat, Int.reduceLT, Int.reduceLE, Int.reduceEq, Int.reduceAdd, Int.reduceSub, Int.reduceMul, Int.toNat_natCast, reduceCtorEq, decide_true, decide_false, IntWalk.i64_in, IntWalk.u64_in, IntWalk.u8_in]
  · simp (disch := omega) only [go_sem, ↓IntWalk.iteOmega, IntWalk.toNatUp, Nat.reduceEqDiff, Nat.reduceAdd, Nat.reduceMul, Nat.reduceSub, Nat.reduceLT, Nat.reduceLeDiff, Int.reduceToNat, Int.reduceLT, Int.reduceLE, Int.reduceEq, Int.reduceAdd, Int.reduceSub, Int.reduceMul, Int.toNat_natCast, reduceCtorEq, decide_true, decide_false, IntWalk.i64_in, IntWalk.u64_in, IntWalk.u8_in]
    refine dtext_loop 5 0 0 l (by omega) hl hlen X hch (by omega) rfl rfl rfl rfl (fun a o nx hnx a1 a3 ho => ?_)
    simp (disch := omega) only [go_sem, ↓IntWalk.iteOmega, IntWalk.toNatUp, Nat.reduceEqDiff, Nat.reduceAdd, Nat.reduceMul, Nat.reduceSub, Nat.reduceLT, Nat.reduceLeDiff, Int.reduceToNat, Int.reduceLT, Int.reduceLE, Int.reduceEq, Int.reduceAdd, Int.reduceSub, Int.reduceMul, Int.toNat_natCast, reduceCtorEq, decide_true, decide_false, IntWalk.i64_in, IntWalk.u64_in, IntWalk.u8_in, a1, a3, ho]
    refine ⟨.inr rfl, ?_⟩
    simp only [Tryd.f15]
    simp (disch := omega) only [go_sem, ↓IntWalk.iteOmega, IntWalk.toNatUp, Nat.reduceEqDiff, Nat.reduceAdd, Nat.reduceMul, Nat.reduceSub, Nat.reduceLT, Nat.reduceLeDiff, Int.reduceToNat, Int.reduceLT, Int.reduceLE, Int.reduceEq, Int.reduceAdd, Int.reduceSub, Int.reduceMul, Int.toNat_natCast, reduceCtorEq, decide_true, decide_false, IntWalk.i64_in, IntWalk.u64_in, IntWalk.u8_in]
theorem aBytes_map (bs : List UInt8) : aBytes (bs.map fun b => .int .u8 b.toNat) = some bs := by
  induction bs with
  | nil => rfl
  | cons b bs ih =>
    rw [List.map_cons, aBytes, ih]
    simp [b.toNat_lt]
theorem cv_bytes {tg k g : Tag} {o : Ob} {nx n : Nat} {ro pl : Bool} {cs : List AV} (bs : List UInt8) (ho : o k = some (.row ⟨5, 1, g, ro, pl, cs⟩)) (hc : cs = bs.map fun b => .int .u8 b.toNat) (hn : n = bs.length) : aConvert Tryd.prog tg 31 9 (.ref k g 0 n) ⟨o, nx⟩ = some (.str bs, ⟨o, nx⟩) := by
  refine convert_bytes (e := 5) (n := n) (cs := cs) (by kernel_rfl) (by kernel_rfl) (by kernel_rfl) ?_ (by rw [hc, hn, List.length_map]) (by rw [hc]; exact aBytes_map bs)
  have hl : cs.length = n := by rw [hc, hn, List.length_map]
  simp only [sliceCells, aRow, ho, if_true, Option.some.injEq, Prod.mk.injEq, true_and, List.drop_zero, Nat.mul_one]
  exact take_len hl
theorem dig_conv {d : Int} (h0 : 0 ≤ d) (h1 : d ≤ 9) : IntKind.u8.wrap (48 + d) = ((dig d.toNat).toNat : Int) := by
  have : ∀ x : Fin 10, IntKind.u8.wrap (48 + (x.1 : Int)) = ((dig x.1).toNat : Int) := by decide +kernel
  have := this ⟨d.toNat, by omega⟩
  rwa [show ((d.toNat : Nat) : Int) = d by omega] at this
theorem dtext_post (k lo hi : Int) (x : Nd) (h : ((k = 6 ∨ k = 7 ∨ k = 8) ∧ lo = 0 ∧ hi = 0) ∨ (k = 9 ∧ 0 ≤ lo ∧ lo ≤ hi ∧ hi ≤ 9)) (hlen : (textN 0 (.mk k 0 lo hi [x])).length ≤ 100000000) (X : FuncId → List AV → Option AV) (hch : ∀ i, i < [x].length → X 30 [.int .i64 k, nodeV ([x].getD i default)] = some (.str (textN k ([x].getD i default)))) :
    WP (EX md0 X) noR 1002 (fun _ => none) (Tryd.f15.body.getD .skip) (begin_ [nodeV (.mk k 0 lo hi [x])]) (fun _ => none) 0 (finDT (textN 0 (.mk k 0 lo hi [x]))) := by
  have ht : textN 0 (.mk k 0 lo hi [x]) = textN k x ++ tailS k lo hi := by
    rw [textN, if_neg (by omega), if_neg (by omega), if_neg (by omega), if_neg (by omega), textNs]; rfl
  rw [ht] at hlen ⊢
  rw [List.length_append] at hlen
  have hj : Lib.join (textNs k [x]) (sepN k) = textN k x := by rw [textNs, textNs, join_one]
  simp only [Tryd.f15, Option.getD_some, nodeV, cNd_mk]
  rcases h with ⟨rfl | rfl | rfl, rfl, rfl⟩ | ⟨rfl, h0, h1, h2⟩
  · simp (disch := omega) only [go_sem, ↓IntWalk.iteOmega, IntWalk.toNatUp, Nat.reduceEqDiff, Nat.reduceAdd, Nat.reduceMul, Nat.reduceSub, Nat.reduceLT, Nat.reduceLeDiff, Int.reduceToNat, Int.reduceLT, Int.reduceLE, Int.reduceEq, Int.reduceAdd, Int.reduceSub, Int.reduceMul, Int.toNat_natCast, reduceCtorEq, decide_true, decide_false, IntWalk.i64_in, IntWalk.u64_in, IntWalk.u8_in]
    refine dtext_loop 6 0 0 [x] (by omega) (by simp) (by rw [hj]; omega) X hch (by omega) rfl rfl rfl rfl (fun a o nx hnx a1 a3 ho => ?_)
    rw [hj] at a3
    simp (disch := omega) only [go_sem, ↓IntWalk.iteOmega, IntWalk.toNatUp, Nat.reduceEqDiff, Nat.reduceAdd, Nat.reduceMul, Nat.reduceSub, Nat.reduceLT, Nat.reduceLeDiff, Int.reduceToNat, Int.reduceLT, Int.reduceLE, Int.reduceEq, Int.reduceAdd, Int.reduceSub, Int.reduceMul, Int.toNat_natCast, reduceCtorEq, decide_true, decide_false, IntWalk.i64_in, IntWalk.u64_in, IntWalk.u8_in, a1, a3, ho]
    refine ⟨.inr rfl, ?_⟩
    simp only [Tryd.f15]
    simp (disch := omega) only [go_sem, ↓IntWalk.iteOmega, IntWalk.toNatUp, Nat.reduceEqDiff, Nat.reduceAdd, Nat.reduceMul, Nat.reduceSub, Nat.reduceLT, Nat.reduceLeDiff, Int.reduceToNat, Int.reduceLT, Int.reduceLE, Int.reduceEq, Int.reduceAdd, Int.reduceSub, Int.reduceMul, Int.toNat_natCast, reduceCtorEq, decide_true, decide_false, IntWalk.i64_in, IntWalk.u64_in, IntWalk.u8_in]
    rfl
  · simp (disch := omega) only [go_sem, ↓IntWalk.iteOmega, IntWalk.toNatUp, Nat.reduceEqDiff, Nat.reduceAdd, Nat.reduceMul, Nat.reduceSub, Nat.reduceLT, Nat.reduceLeDiff, Int.reduceToNat, Int.reduceLT, Int.reduceLE, Int.reduceEq, Int.reduceAdd, Int.reduceSub, Int.reduceMul, Int.toNat_natCast, reduceCtorEq, decide_true, decide_false, IntWalk.i64_in, IntWalk.u64_in, IntWalk.u8_in]
    refine dtext_loop 7 0 0 [x] (by omega) (by simp) (by rw [hj]; omega) X hch (by omega) rfl rfl rfl rfl (fun a o nx hnx a1 a3 ho => ?_)
    rw [hj] at a3
    simp (disch := omega) only [go_sem, ↓IntWalk.iteOmega, IntWalk.toNatUp, Nat.reduceEqDiff, Nat.reduceAdd, Nat.reduceMul, Nat.reduceSub, Nat.reduceLT, Nat.reduceLeDiff, Int.reduceToNat, Int.reduceLT, Int.reduceLE, Int.reduceEq, Int.reduceAdd, Int.reduceSub, Int.reduceMul, Int.toNat_natCast, reduceCtorEq, decide_true, decide_false, IntWalk.i64_in, IntWalk.u64_in, IntWalk.u8_in, a1, a3, ho]
    refine ⟨.inr rfl, ?_⟩
    simp only [Tryd.f15]
    simp (disch := omega) only [go_sem, ↓IntWalk.iteOmega, IntWalk.toNatUp, Nat.reduceEqDiff, Nat.reduceAdd, Nat.reduceMul, Nat.reduceSub, Nat.reduceLT, Nat.reduceLeDiff, Int.reduceToNat, Int.reduceLT, Int.reduceLE, Int.reduceEq, Int.reduceAdd, Int.reduceSub, Int.reduceMul, Int.toNat_natCast, reduceCtorEq, decide_true, decide_false, IntWalk.i64_in, IntWalk.u64_in, IntWalk.u8_in]
    rfl
  · simp (disch := omega) only [go_sem, ↓IntWalk.iteOmega, IntWalk.toNatUp, Nat.reduceEqDiff, Nat.reduceAdd, Nat.reduceMul, Nat.reduceSub, Nat.reduceLT, Nat.reduceLeDiff, Int.reduceToNat, Int.reduceLT, Int.reduceLE, Int.reduceEq, Int.reduceAdd, Int.reduceSub, Int.reduceMul, Int.toNat_natCast, reduceCtorEq, decide_true, decide_false, IntWalk.i64_in, IntWalk.u64_in, IntWalk.u8_in]
    refine dtext_loop 8 0 0 [x] (by omega) (by simp) (by rw [hj]; omega) X hch (by omega) rfl rfl rfl rfl (fun a o nx hnx a1 a3 ho => ?_)
    rw [hj] at a3
    simp (disch := omega) only [go_sem, ↓IntWalk.iteOmega, IntWalk.toNatUp, Nat.reduceEqDiff, Nat.reduceAdd, Nat.reduceMul, Nat.reduceSub, Nat.reduceLT, Nat.reduceLeDiff, Int.reduceToNat, Int.reduceLT, Int.reduceLE, Int.reduceEq, Int.reduceAdd, Int.reduceSub, Int.reduceMul, Int.toNat_natCast, reduceCtorEq, decide_true, decide_false, IntWalk.i64_in, IntWalk.u64_in, IntWalk.u8_in, a1, a3, ho]
    refine ⟨.inr rfl, ?_⟩
    simp only [Tryd.f15]
    simp (disch := omega) only [go_sem, ↓IntWalk.iteOmega, IntWalk.toNatUp, Nat.reduceEqDiff, Nat.reduceAdd, Nat.reduceMul, Nat.reduceSub, Nat.reduceLT, Nat.reduceLeDiff, Int.reduceToNat, Int.reduceLT, Int.reduceLE, Int.reduceEq, Int.reduceAdd, Int.reduceSub, Int.reduceMul, Int.toNat_natCast, reduceCtorEq, decide_true, decide_false, IntWalk.i64_in, IntWalk.u64_in, IntWalk.u8_in]
    rfl
  · have c1 := dig_conv h0 (by omega)
    have c2 := dig_conv (d := hi) (by omega) h2
    simp (disch := omega) only [go_sem, ↓IntWalk.iteOmega, IntWalk.toNatUp, Nat.reduceEqDiff, Nat.reduceAdd, Nat.reduceMul, Nat.reduceSub, Nat.reduceLT, Nat.reduceLeDiff, Int.reduceToNat, Int.reduceLT, Int.reduceLE, Int.reduceEq, Int.reduceAdd, Int.reduceSub, Int.reduceMul, Int.toNat_natCast, reduceCtorEq, decide_true, decide_false, IntWalk.i64_in, IntWalk.u64_in, IntWalk.u8_in]
    refine dtext_loop 9 lo hi [x] (by omega) (by simp) (by rw [hj]; omega) X hch (by omega) rfl rfl rfl rfl (fun a o nx hnx a1 a3 ho => ?_)
    rw [hj] at a3
    have hcv : ∀ (tg k g : Tag) (o : Ob) (nx : Nat), o k = some (.row ⟨5, 1, g, false, true, [.int .u8 123, .int .u8 (dig lo.toNat).toNat, .int .u8 44, .int .u8 (dig hi.toNat).toNat, .int .u8 125]⟩) → aConvert Tryd.prog tg 31 9 (.ref k g 0 5) ⟨o, nx⟩ = some (.str [123, dig lo.toNat, 44, dig hi.toNat, 125], ⟨o, nx⟩) := fun tg k g o nx h => cv_bytes _ h rfl rfl
    simp (disch := omega) only [go_sem, ↓IntWalk.iteOmega, IntWalk.toNatUp, Nat.reduceEqDiff, Nat.reduceAdd, Nat.reduceMul, Nat.reduceSub, Nat.reduceLT, Nat.reduceLeDiff, Int.reduceToNat, Int.reduceLT, Int.reduceLE, Int.reduceEq, Int.reduceAdd, Int.reduceSub, Int.reduceMul, Int.toNat_natCast, reduceCtorEq, decide_true, decide_false, IntWalk.i64_in, IntWalk.u64_in, IntWalk.u8_in, a1, a3, ho, c1, c2]
    rw [hcv _ _ _ _ _ (upd_same _ _ _)]
    simp (disch := omega) only [go_sem, ↓IntWalk.iteOmega, IntWalk.toNatUp, Nat.reduceEqDiff, Nat.reduceAdd, Nat.reduceMul, Nat.reduceSub, Nat.reduceLT, Nat.reduceLeDiff, Int.reduceToNat, Int.reduceLT, Int.reduceLE, Int.reduceEq, Int.reduceAdd, Int.reduceSub, Int.reduceMul, Int.toNat_natCast, reduceCtorEq, decide_true, decide_false, IntWalk.i64_in, IntWalk.u64_in, IntWalk.u8_in]
    refine ⟨.inr rfl, ?_⟩
    simp only [Tryd.f15]
    simp (disch := omega) only [go_sem, ↓IntWalk.iteOmega, IntWalk.toNatUp, Nat.reduceEqDiff, Nat.reduceAdd, Nat.reduceMul, Nat.reduceSub, Nat.reduceLT, Nat.reduceLeDiff, Int.reduceToNat, Int.reduceLT, Int.reduceLE, Int.reduceEq, Int.reduceAdd, Int.reduceSub, Int.reduceMul, Int.toNat_natCast, reduceCtorEq, decide_true, decide_false, IntWalk.i64_in, IntWalk.u64_in, IntWalk.u8_in]
    rfl
def RBr (k : Int) (l : List Nd) (args : List AV) (r : AV) : Prop := ∃ i, i < l.length ∧ args = [.int .i64 k, nodeV (l.getD i default)] ∧ r = .str (textN k (l.getD i default))
theorem RBr_fn (k l) : Fun1 (RBr k l) := by
  rintro args r r' ⟨i, _, rfl, rfl⟩ ⟨j, _, h, rfl⟩
  simp only [List.cons.injEq, AV.agg.injEq, and_true, true_and] at h
  rw [cNd_inj h]
noncomputable def XDt (k : Int) (l : List Nd) : FuncId → List AV → Option AV := tabLook [(30, tRel (RBr k l)), (29, (calls E4 1000).1 29)]
theorem text_le0 (k : Int) (x : Nd) (hk : k ≠ 0) : (textN 0 x).length ≤ (textN k x).length := by
  rw [text_brk hk, brkS]
  split
  · simp; omega
  · omega
theorem dtext_ok : ∀ (n : Nd), rightN n = true → wideN n = true → (textN 0 n).length ≤ 100000000 → Ok Tryd.prog 15 [nodeV n] (.str (textN 0 n))
  | .mk k s lo hi l, hr, hw, hlen => by
    obtain ⟨hx, hc⟩ := right_cases hr
    rw [wideN, Bool.and_eq_true, decide_eq_true_eq] at hw
    have hk0 : k ≠ 0 := by omega
    have hok : CPSound Tryd.prog (XDt k l) := tab_cons (tab_cons (tab_nil _) (fun args r h => ok_calls (E := E4) ext4_ok mixed h)) (tRel_ok (fun args r h' => by
      obtain ⟨i, hil, rfl, rfl⟩ := h'
      have hm : l.getD i default ∈ l := by
        rw [List.getD_eq_getElem?_getD, List.getElem?_eq_getElem hil]
        exact List.getElem_mem hil
      have := size_at_lt hil k s lo hi
      have hle : (textN 0 (l.getD i default)).length ≤ 100000000 := Nat.le_trans (text_le0 k _ hk0) (Nat.le_trans (text_kid hr hm) hlen)
      exact bracketed_ok k _ hk0 hle (dtext_ok (l.getD i default) (hx _ hm) (wide_at hw.2 hil) hle)))
    have hset : ∀ s : Nat, 1 ≤ s → s ≤ 31 → XDt k l 29 [.int .i64 s] = some (.str (setS s)) := fun s h0 h1 => dset_at h0 h1
    have hch : ∀ i, i < l.length → XDt k l 30 [.int .i64 k, nodeV (l.getD i default)] = some (.str (textN k (l.getD i default))) := fun i h => tRel_eq (RBr_fn k l) ⟨i, h, rfl, rfl⟩
    refine ok_of_WP (E := EX md0 (XDt k l)) (cr := noR) hok (noR_ok _) mixed (k := 1002) Tryd.func15 (lookDText _) rfl ?_
    rcases hc with ⟨rfl, rfl, rfl, rfl, h0, h1⟩ | ⟨hk, rfl, rfl, rfl, rfl⟩ | ⟨hk, rfl, rfl, rfl, y1, y2, r, rfl⟩ | ⟨hk, rfl, rfl, rfl, x, rfl⟩ | ⟨rfl, rfl, h0, h1, h2, x, rfl⟩
    · exact dtext_leaf 1 s (.inl ⟨rfl, h0, h1⟩) _ hset
    · exact dtext_leaf k 0 (by omega) _ hset
    · exact dtext_many k _ hk hw.1 hlen _ hch
    · exact dtext_post k 0 0 x (.inl ⟨hk, rfl, rfl⟩) hlen _ hch
    · exact dtext_post 9 lo hi x (.inr ⟨rfl, h0, h1, h2⟩) hlen _ hch
termination_by n => SizeOf.sizeOf n
decreasing_by
  exact this
theorem RText_dok (args r) (h : RText args r) : Ok Tryd.prog 15 args r := by
  obtain ⟨n, h1, h2, h3, rfl, rfl⟩ := h
  exact dtext_ok n h1 h2 h3
end Go.Proofs.YtmcbfbpdfbcakaaDoor.A
/- l4 part and Make: contracts. UNDER WAY. -/
namespace Go.Proofs.YtmcbfbpdfbcakaaDoor.A
open Go
set_option maxRecDepth 20000
theorem sign_conv (x : Int) : IntKind.u64.wrap (x % 5) = x % 5 := IntWalk.u64_in _ (by have := Int.emod_nonneg x (show (5 : Int) ≠ 0 by decide); have := Int.emod_lt_of_pos x (show (0 : Int) < 5 by decide); omega)
def RMk (l : List Rw) (args : List AV) (r : AV) : Prop := ∃ i, i < l.length ∧ args = [rawV (l.getD i default)] ∧ r = nodeV (makeN (l.getD i default))
theorem RMk_fn (l) : Fun1 (RMk l) := by
  rintro args r r' ⟨i, _, rfl, rfl⟩ ⟨j, _, h, rfl⟩
  simp only [List.cons.injEq, AV.agg.injEq, and_true] at h
  rw [cRw_inj h]
theorem lookPart (X) : lookedAt (EX md0 X) (fun _ => none) 2 Tryd.f46 = true := by kernel_rfl
theorem part_ok (k n : Int) (l : List Rw) (hch : ∀ i, i < l.length → Ok Tryd.prog 31 [rawV (l.getD i default)] (nodeV (makeN (l.getD i default)))) (i : Nat) (hi : i ≤ 1000000) :
    Ok Tryd.prog 46 [rawV (.mk k n l), .int .i64 i] (nodeV (partN n (makeNs l) i)) := by
  refine ok_of_WP (E := EX md0 (tabLook [(31, tRel (RMk l)), (17, tRel RW)])) (cr := noR) (tab_cons (tab_cons (tab_nil _) (tRel_ok within2_ok)) (tRel_ok (fun args r h => by obtain ⟨i, hi, rfl, rfl⟩ := h; exact hch i hi))) (noR_ok _) mixed (k := 0) Tryd.func46 (lookPart _) rfl ?_
  have hmk : ∀ j, j < l.length → tabLook [(31, tRel (RMk l)), (17, tRel RW)] 31 [rawV (l.getD j default)] = some (nodeV (makeN (l.getD j default))) := fun j hj => tRel_eq (RMk_fn l) ⟨j, hj, rfl, rfl⟩
  have hwi : ∀ a m : Int, 0 < m → m ≤ 1000000 → tabLook [(31, tRel (RMk l)), (17, tRel RW)] 17 [.int .i64 a, .int .i64 m] = some (.int .i64 (a % m)) := fun a m h1 h2 => rw_eq h1 h2
  simp only [Tryd.f46, Option.getD_some]
  by_cases hlt : i < l.length
  · have hat := cRws_at hlt
    have e : partN n (makeNs l) i = makeN (l.getD i default) := by rw [partN, makeNs_length, if_pos hlt, makeNs_get hlt]
    rw [e]
    have hm := hmk i hlt
    simp (disch := omega) only [go_sem, ↓IntWalk.iteOmega, IntWalk.toNatUp, Nat.reduceEqDiff, Nat.reduceAdd, Nat.reduceMul, Nat.reduceSub, Nat.reduceLT, Nat.reduceLeDiff, Int.reduceToNat, Int.reduceLT, Int.reduceLE, Int.reduceEq, Int.reduceAdd, Int.reduceSub, Int.reduceMul, Int.toNat_natCast, reduceCtorEq, decide_true, decide_false, IntWalk.i64_in, IntWalk.u64_in, IntWalk.u8_in, hat, hm]
  · have e : partN n (makeNs l) i = .mk 1 (sign (IntKind.i64.wrap (n + i))) 0 0 [] := by rw [partN, makeNs_length, if_neg hlt]
    rw [e]
    have hs := sign_conv (IntKind.i64.wrap (n + i))
    have hs0 := Int.emod_nonneg (IntKind.i64.wrap (n + i)) (show (5 : Int) ≠ 0 by decide)
    simp (disch := omega) only [go_sem, ↓IntWalk.iteOmega, IntWalk.toNatUp, Nat.reduceEqDiff, Nat.reduceAdd, Nat.reduceMul, Nat.reduceSub, Nat.reduceLT, Nat.reduceLeDiff, Int.reduceToNat, Int.reduceLT, Int.reduceLE, Int.reduceEq, Int.reduceAdd, Int.reduceSub, Int.reduceMul, Int.toNat_natCast, reduceCtorEq, decide_true, decide_false, IntWalk.i64_in, IntWalk.u64_in, IntWalk.u8_in, hwi, hs]
    simp only [nodeV, cNd_mk, sign, slN, cNds_nil, List.length_nil]
def nz34 : Nat → Option (List (Nat × Nat))
  | 17 => some [(1, 4), (1, 5)]
  | 25 => some [(1, 4), (1, 5)]
  | _ => none
theorem many4_in (n : Nat) : 2 ≤ many4 n ∧ many4 n ≤ 4 := by unfold many4; split <;> (try split) <;> omega
theorem many4_lt {n i : Nat} (h : i < many4 n) : i < 2 ∨ (2 ≤ i ∧ i < n ∧ i < 4) := by unfold many4 at h; split at h <;> (try split at h) <;> omega

theorem join_loop (k n : Int) (l : List Rw) (hpart : ∀ i : Nat, i ≤ 1000000 → Ok Tryd.prog 46 [rawV (.mk k n l), .int .i64 i] (nodeV (partN n (makeNs l) i))) (X : FuncId → List AV → Option AV)
    (hX : ∀ i : Nat, i ≤ 1000000 → X 46 [rawV (.mk k n l), .int .i64 i] = some (nodeV (partN n (makeNs l) i))) (kind : Int) {Q : WPost} (a : AAct) (o : Ob) (nx st : Nat) (hst : st < nx) (hst2 : 2 ≤ st)
    (h1 : a 1 = .ptr (0, 1) (0, 1) 0) (h2 : a 2 = .ptr (0, 2) (0, 2) 0) (h3 : a 3 = .ptr (st, 3) (st, 3) 0) (h4 : a 4 = .int .i64 0)
    (ho1 : o (0, 1) = some (.row ⟨56, 1, (0, 1), false, true, cRw (.mk k n l)⟩)) (ho2 : ∃ x, o (0, 2) = some (.row ⟨29, 1, (0, 2), false, true, x⟩) ∧ x.length = 5) (ho3 : o (st, 3) = some (.row ⟨29, 1, (st, 3), false, true, [.int .i64 kind, .int .i64 0, .int .i64 0, .int .i64 0, .nil]⟩))
    (hQ : ∀ a o nx, a 2 = .ptr (0, 2) (0, 2) 0 → (∃ v, o (0, 2) = some (.row ⟨29, 1, (0, 2), false, true, [.int .i64 kind, .int .i64 0, .int .i64 0, .int .i64 0, v]⟩) ∧ HS 29 5 63 o nx v (many4 l.length) (cNds ((List.range (many4 l.length)).map (partN n (makeNs l))))) → Q .ret a o nx) :
    WP (EX md0 X) noR 10 nz34 (pathC [1, 0, 1, 0, 1, 1, 1, 1, 1, 1, 1, 0, 1, 0, 1, 0] (Tryd.f31.body.getD .skip)) a o nx (blockQ 1 (thenQ (EX md0 X) noR 10 nz34 (pathC [1, 0, 1, 0, 1, 1, 1, 1, 1, 1, 1, 0, 1, 1] (Tryd.f31.body.getD .skip)) Q)) := by
  simp only [Tryd.f31, Option.getD_some, pathC]
  have hc := many4_in l.length
  refine WP_loop (fun m a o nx => ∃ i v, i ≤ many4 l.length ∧ m = many4 l.length - i ∧ st < nx ∧ a 1 = .ptr (0, 1) (0, 1) 0 ∧ a 2 = .ptr (0, 2) (0, 2) 0 ∧ a 3 = .ptr (st, 3) (st, 3) 0 ∧ a 4 = .int .i64 i ∧ HS 29 5 63 o nx v i (cNds ((List.range i).map (partN n (makeNs l)))) ∧
    o (0, 1) = some (.row ⟨56, 1, (0, 1), false, true, cRw (.mk k n l)⟩) ∧ (∃ x, o (0, 2) = some (.row ⟨29, 1, (0, 2), false, true, x⟩) ∧ x.length = 5) ∧ o (st, 3) = some (.row ⟨29, 1, (st, 3), false, true, [.int .i64 kind, .int .i64 0, .int .i64 0, .int .i64 0, v]⟩)) (many4 l.length) ?_ ⟨0, .nil, by omega, by omega, by omega, h1, h2, h3, h4, HS.nil, ho1, ho2, ho3⟩ ?_
  · omega
  · clear h1 h2 h3 h4 ho1 ho2 ho3
    rintro m a o nx ⟨i, v, hi, rfl, hnx, h1, h2, h3, h4, hHS, ho1, ⟨x, ho2, hx5⟩, ho3⟩
    have hok := hHS.ok
    by_cases hlt : i < many4 l.length
    · have hcond : i < 2 ∨ (2 ≤ i ∧ i < l.length ∧ i < 4) := many4_lt hlt
      have hp := hX i (by omega)
      simp only [rawV, nodeV, cRw_mk] at hp
      have hsn : (List.range (i + 1)).map (partN n (makeNs l)) = (List.range i).map (partN n (makeNs l)) ++ [partN n (makeNs l) i] := by rw [List.range_succ, List.map_append]; rfl
      rcases hHS with ⟨rfl, e2, e3⟩ | ⟨i1, g1, rfl, hi1, hrow, hlen⟩
      · rcases hcond with c | ⟨c1, c2, c3⟩
        · simp (disch := omega) only [go_sem, ↓IntWalk.iteOmega, IntWalk.toNatUp, Nat.reduceEqDiff, Nat.reduceAdd, Nat.reduceMul, Nat.reduceSub, Nat.reduceLT, Nat.reduceLeDiff, Int.reduceToNat, Int.reduceLT, Int.reduceLE, Int.reduceEq, Int.reduceAdd, Int.reduceSub, Int.reduceMul, Int.toNat_natCast, reduceCtorEq, decide_true, decide_false, IntWalk.i64_in, IntWalk.u64_in, IntWalk.u8_in, h1, h2, h3, h4, ho1, ho2, ho3, hp, nz34]
          refine ⟨_, ?_, i + 1, _, by omega, rfl, by omega, rfl, ?_, ⟨x, rfl, hx5⟩, rfl⟩
          · omega
          · rw [hsn, cNds_app, cNds_one, List.map_eq_nil_iff.2 (List.length_eq_zero_iff.1 (by rw [List.length_range]; exact e2)), cNds_nil]
            exact .inr ⟨nx + 1, _, by rw [e2], by omega, by simp [upd_app], by rw [List.nil_append, cNd_length, e2]⟩
        · omega
      · obtain ⟨cs, hcs⟩ : ∃ cs, cs = cNds ((List.range i).map (partN n (makeNs l))) := ⟨_, rfl⟩
        rw [← hcs] at hrow hlen
        have htk : cs.take (i * 5) = cs := take_len hlen
        have hfin : ∀ o' nx', o' (i1, 63) = some (.row ⟨29, 5, (nx + 1, 63), false, true, cs ++ cNd (partN n (makeNs l) i)⟩) → i1 < nx' → HS 29 5 63 o' nx' (.ref (i1, 63) (nx + 1, 63) 0 (i + 1)) (i + 1) (cNds ((List.range (i + 1)).map (partN n (makeNs l)))) := by
          intro o' nx' h h'
          rw [hsn, cNds_app, cNds_one, ← hcs]
          exact .inr ⟨i1, _, rfl, h', h, by rw [List.length_append, cNd_length, hlen]; omega⟩
        rcases hcond with c | ⟨c1, c2, c3⟩
        all_goals
          simp (disch := omega) only [go_sem, ↓IntWalk.iteOmega, IntWalk.toNatUp, Nat.reduceEqDiff, Nat.reduceAdd, Nat.reduceMul, Nat.reduceSub, Nat.reduceLT, Nat.reduceLeDiff, Int.reduceToNat, Int.reduceLT, Int.reduceLE, Int.reduceEq, Int.reduceAdd, Int.reduceSub, Int.reduceMul, Int.toNat_natCast, reduceCtorEq, decide_true, decide_false, IntWalk.i64_in, IntWalk.u64_in, IntWalk.u8_in, h1, h2, h3, h4, ho1, ho2, ho3, hp, hrow, nz34, hlen, htk]
          refine ⟨_, ?_, i + 1, _, by omega, rfl, by omega, rfl, hfin _ _ ?_ (by omega), ⟨x, rfl, hx5⟩, rfl⟩
          · omega
          · simp [upd_app]
    · have hie : i = many4 l.length := by omega
      have hc1 : ¬ i < 2 := by omega
      have hx0 : x.drop 5 = [] := List.drop_of_length_le (by omega)
      by_cases c2 : i < l.length
      · have c3 : ¬ i < 4 := by have := hie; unfold many4 at this; split at this <;> (try split at this) <;> omega
        simp (disch := omega) only [go_sem, ↓IntWalk.iteOmega, IntWalk.toNatUp, Nat.reduceEqDiff, Nat.reduceAdd, Nat.reduceMul, Nat.reduceSub, Nat.reduceLT, Nat.reduceLeDiff, Int.reduceToNat, Int.reduceLT, Int.reduceLE, Int.reduceEq, Int.reduceAdd, Int.reduceSub, Int.reduceMul, Int.toNat_natCast, reduceCtorEq, decide_true, decide_false, IntWalk.i64_in, IntWalk.u64_in, IntWalk.u8_in, h1, h2, h3, h4, ho1, ho2, ho3, hc1, hok]
        exact hQ _ _ _ (by simp [put_app, h2]) ⟨v, by rw [upd_same, hx0], by rw [← hie]; exact hHS.keep (fun _ _ => by simp [upd_app]) (by omega)⟩
      · simp (disch := omega) only [go_sem, ↓IntWalk.iteOmega, IntWalk.toNatUp, Nat.reduceEqDiff, Nat.reduceAdd, Nat.reduceMul, Nat.reduceSub, Nat.reduceLT, Nat.reduceLeDiff, Int.reduceToNat, Int.reduceLT, Int.reduceLE, Int.reduceEq, Int.reduceAdd, Int.reduceSub, Int.reduceMul, Int.toNat_natCast, reduceCtorEq, decide_true, decide_false, IntWalk.i64_in, IntWalk.u64_in, IntWalk.u8_in, h1, h2, h3, h4, ho1, ho2, ho3, hc1, hok]
        exact hQ _ _ _ (by simp [put_app, h2]) ⟨v, by rw [upd_same, hx0], by rw [← hie]; exact hHS.keep (fun _ _ => by simp [upd_app]) (by omega)⟩

theorem union_loop (k n : Int) (l : List Rw) (hpart : ∀ i : Nat, i ≤ 1000000 → Ok Tryd.prog 46 [rawV (.mk k n l), .int .i64 i] (nodeV (partN n (makeNs l) i))) (X : FuncId → List AV → Option AV)
    (hX : ∀ i : Nat, i ≤ 1000000 → X 46 [rawV (.mk k n l), .int .i64 i] = some (nodeV (partN n (makeNs l) i))) (kind : Int) {Q : WPost} (a : AAct) (o : Ob) (nx st : Nat) (hst : st < nx) (hst2 : 2 ≤ st)
    (h1 : a 1 = .ptr (0, 1) (0, 1) 0) (h2 : a 2 = .ptr (0, 2) (0, 2) 0) (h3 : a 5 = .ptr (st, 5) (st, 5) 0) (h4 : a 6 = .int .i64 0)
    (ho1 : o (0, 1) = some (.row ⟨56, 1, (0, 1), false, true, cRw (.mk k n l)⟩)) (ho2 : ∃ x, o (0, 2) = some (.row ⟨29, 1, (0, 2), false, true, x⟩) ∧ x.length = 5) (ho3 : o (st, 5) = some (.row ⟨29, 1, (st, 5), false, true, [.int .i64 kind, .int .i64 0, .int .i64 0, .int .i64 0, .nil]⟩))
    (hQ : ∀ a o nx, a 2 = .ptr (0, 2) (0, 2) 0 → (∃ v, o (0, 2) = some (.row ⟨29, 1, (0, 2), false, true, [.int .i64 kind, .int .i64 0, .int .i64 0, .int .i64 0, v]⟩) ∧ HS 29 5 91 o nx v (many4 l.length) (cNds ((List.range (many4 l.length)).map (partN n (makeNs l))))) → Q .ret a o nx) :
    WP (EX md0 X) noR 10 nz34 (pathC [1, 0, 1, 0, 1, 1, 1, 1, 1, 1, 1, 1, 1, 0, 1, 0, 1, 0] (Tryd.f31.body.getD .skip)) a o nx (blockQ 3 (thenQ (EX md0 X) noR 10 nz34 (pathC [1, 0, 1, 0, 1, 1, 1, 1, 1, 1, 1, 1, 1, 0, 1, 1] (Tryd.f31.body.getD .skip)) Q)) := by
  simp only [Tryd.f31, Option.getD_some, pathC]
  have hc := many4_in l.length
  refine WP_loop (fun m a o nx => ∃ i v, i ≤ many4 l.length ∧ m = many4 l.length - i ∧ st < nx ∧ a 1 = .ptr (0, 1) (0, 1) 0 ∧ a 2 = .ptr (0, 2) (0, 2) 0 ∧ a 5 = .ptr (st, 5) (st, 5) 0 ∧ a 6 = .int .i64 i ∧ HS 29 5 91 o nx v i (cNds ((List.range i).map (partN n (makeNs l)))) ∧
    o (0, 1) = some (.row ⟨56, 1, (0, 1), false, true, cRw (.mk k n l)⟩) ∧ (∃ x, o (0, 2) = some (.row ⟨29, 1, (0, 2), false, true, x⟩) ∧ x.length = 5) ∧ o (st, 5) = some (.row ⟨29, 1, (st, 5), false, true, [.int .i64 kind, .int .i64 0, .int .i64 0, .int .i64 0, v]⟩)) (many4 l.length) ?_ ⟨0, .nil, by omega, by omega, by omega, h1, h2, h3, h4, HS.nil, ho1, ho2, ho3⟩ ?_
  · omega
  · clear h1 h2 h3 h4 ho1 ho2 ho3
    rintro m a o nx ⟨i, v, hi, rfl, hnx, h1, h2, h3, h4, hHS, ho1, ⟨x, ho2, hx5⟩, ho3⟩
    have hok := hHS.ok
    by_cases hlt : i < many4 l.length
    · have hcond : i < 2 ∨ (2 ≤ i ∧ i < l.length ∧ i < 4) := many4_lt hlt
      have hp := hX i (by omega)
      simp only [rawV, nodeV, cRw_mk] at hp
      have hsn : (List.range (i + 1)).map (partN n (makeNs l)) = (List.range i).map (partN n (makeNs l)) ++ [partN n (makeNs l) i] := by rw [List.range_succ, List.map_append]; rfl
      rcases hHS with ⟨rfl, e2, e3⟩ | ⟨i1, g1, rfl, hi1, hrow, hlen⟩
      · rcases hcond with c | ⟨c1, c2, c3⟩
        · simp (disch := omega) only [go_sem, ↓IntWalk.iteOmega, IntWalk.toNatUp, Nat.reduceEqDiff, Nat.reduceAdd, Nat.reduceMul, Nat.reduceSub, Nat.reduceLT, Nat.reduceLeDiff, Int.reduceToNat, Int.reduceLT, Int.reduceLE, Int.reduceEq, Int.reduceAdd, Int.reduceSub, Int.reduceMul, Int.toNat_natCast, reduceCtorEq, decide_true, decide_false, IntWalk.i64_in, IntWalk.u64_in, IntWalk.u8_in, h1, h2, h3, h4, ho1, ho2, ho3, hp, nz34]
          refine ⟨_, ?_, i + 1, _, by omega, rfl, by omega, rfl, ?_, ⟨x, rfl, hx5⟩, rfl⟩
          · omega
          · rw [hsn, cNds_app, cNds_one, List.map_eq_nil_iff.2 (List.length_eq_zero_iff.1 (by rw [List.length_range]; exact e2)), cNds_nil]
            exact .inr ⟨nx + 1, _, by rw [e2], by omega, by simp [upd_app], by rw [List.nil_append, cNd_length, e2]⟩
        · omega
      · obtain ⟨cs, hcs⟩ : ∃ cs, cs = cNds ((List.range i).map (partN n (makeNs l))) := ⟨_, rfl⟩
        rw [← hcs] at hrow hlen
        have htk : cs.take (i * 5) = cs := take_len hlen
        have hfin : ∀ o' nx', o' (i1, 91) = some (.row ⟨29, 5, (nx + 1, 91), false, true, cs ++ cNd (partN n (makeNs l) i)⟩) → i1 < nx' → HS 29 5 91 o' nx' (.ref (i1, 91) (nx + 1, 91) 0 (i + 1)) (i + 1) (cNds ((List.range (i + 1)).map (partN n (makeNs l)))) := by
          intro o' nx' h h'
          rw [hsn, cNds_app, cNds_one, ← hcs]
          exact .inr ⟨i1, _, rfl, h', h, by rw [List.length_append, cNd_length, hlen]; omega⟩
        rcases hcond with c | ⟨c1, c2, c3⟩
        all_goals
          simp (disch := omega) only [go_sem, ↓IntWalk.iteOmega, IntWalk.toNatUp, Nat.reduceEqDiff, Nat.reduceAdd, Nat.reduceMul, Nat.reduceSub, Nat.reduceLT, Nat.reduceLeDiff, Int.reduceToNat, Int.reduceLT, Int.reduceLE, Int.reduceEq, Int.reduceAdd, Int.reduceSub, Int.reduceMul, Int.toNat_natCast, reduceCtorEq, decide_true, decide_false, IntWalk.i64_in, IntWalk.u64_in, IntWalk.u8_in, h1, h2, h3, h4, ho1, ho2, ho3, hp, hrow, nz34, hlen, htk]
          refine ⟨_, ?_, i + 1, _, by omega, rfl, by omega, rfl, hfin _ _ ?_ (by omega), ⟨x, rfl, hx5⟩, rfl⟩
          · omega
          · simp [upd_app]
    · have hie : i = many4 l.length := by omega
      have hc1 : ¬ i < 2 := by omega
      have hx0 : x.drop 5 = [] := List.drop_of_length_le (by omega)
      by_cases c2 : i < l.length
      · have c3 : ¬ i < 4 := by have := hie; unfold many4 at this; split at this <;> (try split at this) <;> omega
        simp (disch := omega) only [go_sem, ↓IntWalk.iteOmega, IntWalk.toNatUp, Nat.reduceEqDiff, Nat.reduceAdd, Nat.reduceMul, Nat.reduceSub, Nat.reduceLT, Nat.reduceLeDiff, Int.reduceToNat, Int.reduceLT, Int.reduceLE, Int.reduceEq, Int.reduceAdd, Int.reduceSub, Int.reduceMul, Int.toNat_natCast, reduceCtorEq, decide_true, decide_false, IntWalk.i64_in, IntWalk.u64_in, IntWalk.u8_in, h1, h2, h3, h4, ho1, ho2, ho3, hc1, hok]
        exact hQ _ _ _ (by simp [put_app, h2]) ⟨v, by rw [upd_same, hx0], by rw [← hie]; exact hHS.keep (fun _ _ => by simp [upd_app]) (by omega)⟩
      · simp (disch := omega) only [go_sem, ↓IntWalk.iteOmega, IntWalk.toNatUp, Nat.reduceEqDiff, Nat.reduceAdd, Nat.reduceMul, Nat.reduceSub, Nat.reduceLT, Nat.reduceLeDiff, Int.reduceToNat, Int.reduceLT, Int.reduceLE, Int.reduceEq, Int.reduceAdd, Int.reduceSub, Int.reduceMul, Int.toNat_natCast, reduceCtorEq, decide_true, decide_false, IntWalk.i64_in, IntWalk.u64_in, IntWalk.u8_in, h1, h2, h3, h4, ho1, ho2, ho3, hc1, hok]
        exact hQ _ _ _ (by simp [put_app, h2]) ⟨v, by rw [upd_same, hx0], by rw [← hie]; exact hHS.keep (fun _ _ => by simp [upd_app]) (by omega)⟩
end Go.Proofs.YtmcbfbpdfbcakaaDoor.A
/- Make: the expression of a raw one. -/
namespace Go.Proofs.YtmcbfbpdfbcakaaDoor.A
open Go
set_option maxRecDepth 20000
def RPart (k n : Int) (l : List Rw) (args : List AV) (r : AV) : Prop := ∃ i : Nat, i ≤ 1000000 ∧ args = [rawV (.mk k n l), .int .i64 i] ∧ r = nodeV (partN n (makeNs l) i)
theorem RPart_fn (k n l) : Fun1 (RPart k n l) := by
  rintro args r r' ⟨i, _, rfl, rfl⟩ ⟨j, _, h, rfl⟩
  simp only [List.cons.injEq, AV.int.injEq, and_true, true_and] at h
  rw [Int.ofNat_inj.1 h]
theorem lookMake (X) : lookedAt (EX md0 X) nz34 10 Tryd.f31 = true := by kernel_rfl
theorem make1_ok (k n : Int) (l : List Rw) (hpart : ∀ i : Nat, i ≤ 1000000 → Ok Tryd.prog 46 [rawV (.mk k n l), .int .i64 i] (nodeV (partN n (makeNs l) i))) :
    Ok Tryd.prog 31 [rawV (.mk k n l)] (nodeV (buildN k n (makeNs l))) := by
  refine ok_of_WP (E := EX md0 (tabLook [(46, tRel (RPart k n l)), (17, tRel RW)])) (cr := noR) (tab_cons (tab_cons (tab_nil _) (tRel_ok within2_ok)) (tRel_ok (fun args r h => by obtain ⟨i, hi, rfl, rfl⟩ := h; exact hpart i hi))) (noR_ok _) mixed (k := 10) Tryd.func31 (lookMake _) rfl ?_
  obtain ⟨X, hX⟩ : ∃ X, X = tabLook [(46, tRel (RPart k n l)), (17, tRel RW)] := ⟨_, rfl⟩
  have hp : ∀ j : Nat, j ≤ 1000000 → X 46 [rawV (.mk k n l), .int .i64 j] = some (nodeV (partN n (makeNs l) j)) := fun j hj => by rw [hX]; exact tRel_eq (RPart_fn k n l) ⟨j, hj, rfl, rfl⟩
  have hwi : ∀ a m : Int, 0 < m → m ≤ 1000000 → X 17 [.int .i64 a, .int .i64 m] = some (.int .i64 (a % m)) := fun a m h1 h2 => by rw [hX]; exact rw_eq h1 h2
  rw [← hX]
  clear hX
  simp only [Tryd.f31, Option.getD_some]
  have hk0 := Int.emod_nonneg k (show (14 : Int) ≠ 0 by decide)
  have hk1 := Int.emod_lt_of_pos k (show (0 : Int) < 14 by decide)
  have h31 := Int.emod_nonneg n (show (31 : Int) ≠ 0 by decide)
  have h31' := Int.emod_lt_of_pos n (show (0 : Int) < 31 by decide)
  have hp0 : X 46 [.agg [.int .i64 k, .int .i64 n, .sl l.length (cRws l)], .int .i64 0] = some (.agg (cNd (partN n (makeNs l) 0))) := by
    have := hp 0 (by omega)
    rw [rawV, nodeV, cRw_mk] at this
    exact this
  have hk : k % 14 = 0 ∨ k % 14 = 1 ∨ k % 14 = 2 ∨ k % 14 = 3 ∨ k % 14 = 4 ∨ k % 14 = 5 ∨ k % 14 = 6 ∨ k % 14 = 7 ∨ k % 14 = 8 ∨ k % 14 = 9 ∨ k % 14 = 10 ∨ k % 14 = 11 ∨ k % 14 = 12 ∨ k % 14 = 13 := by omega
  rcases hk with e | e | e | e | e | e | e | e | e | e | e | e | e | e
  · simp (disch := omega) only [go_sem, ↓IntWalk.iteOmega, IntWalk.toNatUp, Nat.reduceEqDiff, Nat.reduceAdd, Nat.reduceMul, Nat.reduceSub, Nat.reduceLT, Nat.reduceLeDiff, Int.reduceToNat, Int.reduceLT, Int.reduceLE, Int.reduceEq, Int.reduceAdd, Int.reduceSub, Int.reduceMul, Int.toNat_natCast, reduceCtorEq, decide_true, decide_false, IntWalk.i64_in, IntWalk.u64_in, IntWalk.u8_in, hwi, e, buildN]
    simp only [nodeV, cNd_mk, sign, slN, cNds_nil, List.length_nil]
  · simp (disch := omega) only [go_sem, ↓IntWalk.iteOmega, IntWalk.toNatUp, Nat.reduceEqDiff, Nat.reduceAdd, Nat.reduceMul, Nat.reduceSub, Nat.reduceLT, Nat.reduceLeDiff, Int.reduceToNat, Int.reduceLT, Int.reduceLE, Int.reduceEq, Int.reduceAdd, Int.reduceSub, Int.reduceMul, Int.toNat_natCast, reduceCtorEq, decide_true, decide_false, IntWalk.i64_in, IntWalk.u64_in, IntWalk.u8_in, hwi, e, buildN]
    simp only [nodeV, cNd_mk, sign, slN, cNds_nil, List.length_nil]
  · simp (disch := omega) only [go_sem, ↓IntWalk.iteOmega, IntWalk.toNatUp, Nat.reduceEqDiff, Nat.reduceAdd, Nat.reduceMul, Nat.reduceSub, Nat.reduceLT, Nat.reduceLeDiff, Int.reduceToNat, Int.reduceLT, Int.reduceLE, Int.reduceEq, Int.reduceAdd, Int.reduceSub, Int.reduceMul, Int.toNat_natCast, reduceCtorEq, decide_true, decide_false, IntWalk.i64_in, IntWalk.u64_in, IntWalk.u8_in, hwi, e, buildN]
    simp only [nodeV, cNd_mk, sign, slN, cNds_nil, List.length_nil]
  · simp (disch := omega) only [go_sem, ↓IntWalk.iteOmega, IntWalk.toNatUp, Nat.reduceEqDiff, Nat.reduceAdd, Nat.reduceMul, Nat.reduceSub, Nat.reduceLT, Nat.reduceLeDiff, Int.reduceToNat, Int.reduceLT, Int.reduceLE, Int.reduceEq, Int.reduceAdd, Int.reduceSub, Int.reduceMul, Int.toNat_natCast, reduceCtorEq, decide_true, decide_false, IntWalk.i64_in, IntWalk.u64_in, IntWalk.u8_in, hwi, e, buildN]
    simp only [nodeV, cNd_mk, sign, slN, cNds_nil, List.length_nil]
  · have h3 : n % 3 = 0 ∨ n % 3 = 1 ∨ n % 3 = 2 := by omega
    rcases h3 with e3 | e3 | e3
    all_goals
      simp (disch := omega) only [go_sem, ↓IntWalk.iteOmega, IntWalk.toNatUp, Nat.reduceEqDiff, Nat.reduceAdd, Nat.reduceMul, Nat.reduceSub, Nat.reduceLT, Nat.reduceLeDiff, Int.reduceToNat, Int.reduceLT, Int.reduceLE, Int.reduceEq, Int.reduceAdd, Int.reduceSub, Int.reduceMul, Int.toNat_natCast, reduceCtorEq, decide_true, decide_false, IntWalk.i64_in, IntWalk.u64_in, IntWalk.u8_in, hwi, e, e3, buildN]
      simp only [nodeV, cNd_mk, slN, cNds_nil, List.length_nil]
  · simp (disch := omega) only [go_sem, ↓IntWalk.iteOmega, IntWalk.toNatUp, Nat.reduceEqDiff, Nat.reduceAdd, Nat.reduceMul, Nat.reduceSub, Nat.reduceLT, Nat.reduceLeDiff, Int.reduceToNat, Int.reduceLT, Int.reduceLE, Int.reduceEq, Int.reduceAdd, Int.reduceSub, Int.reduceMul, Int.toNat_natCast, reduceCtorEq, decide_true, decide_false, IntWalk.i64_in, IntWalk.u64_in, IntWalk.u8_in, hwi, e, buildN]
    refine join_loop k n l hpart X hp 4 _ _ _ _ (by omega) (by omega) rfl rfl rfl rfl rfl ⟨_, rfl, rfl⟩ rfl ?_
    rintro a o nx h2 ⟨v, ho2, hHS⟩
    simp (disch := omega) only [go_sem, ↓IntWalk.iteOmega, IntWalk.toNatUp, Nat.reduceEqDiff, Nat.reduceAdd, Nat.reduceMul, Nat.reduceSub, Nat.reduceLT, Nat.reduceLeDiff, Int.reduceToNat, Int.reduceLT, Int.reduceLE, Int.reduceEq, Int.reduceAdd, Int.reduceSub, Int.reduceMul, Int.toNat_natCast, reduceCtorEq, decide_true, decide_false, IntWalk.i64_in, IntWalk.u64_in, IntWalk.u8_in, h2, ho2]
    rw [hHS.view, nodeV, cNd_mk, slN, List.length_map, List.length_range, makeNs_length, view_cNds]
  · simp (disch := omega) only [go_sem, ↓IntWalk.iteOmega, IntWalk.toNatUp, Nat.reduceEqDiff, Nat.reduceAdd, Nat.reduceMul, Nat.reduceSub, Nat.reduceLT, Nat.reduceLeDiff, Int.reduceToNat, Int.reduceLT, Int.reduceLE, Int.reduceEq, Int.reduceAdd, Int.reduceSub, Int.reduceMul, Int.toNat_natCast, reduceCtorEq, decide_true, decide_false, IntWalk.i64_in, IntWalk.u64_in, IntWalk.u8_in, hwi, e, buildN]
    refine join_loop k n l hpart X hp 4 _ _ _ _ (by omega) (by omega) rfl rfl rfl rfl rfl ⟨_, rfl, rfl⟩ rfl ?_
    rintro a o nx h2 ⟨v, ho2, hHS⟩
    simp (disch := omega) only [go_sem, ↓IntWalk.iteOmega, IntWalk.toNatUp, Nat.reduceEqDiff, Nat.reduceAdd, Nat.reduceMul, Nat.reduceSub, Nat.reduceLT, Nat.reduceLeDiff, Int.reduceToNat, Int.reduceLT, Int.reduceLE, Int.reduceEq, Int.reduceAdd, Int.reduceSub, Int.reduceMul, Int.toNat_natCast, reduceCtorEq, decide_true, decide_false, IntWalk.i64_in, IntWalk.u64_in, IntWalk.u8_in, h2, ho2]
    rw [hHS.view, nodeV, cNd_mk, slN, List.length_map, List.length_range, makeNs_length, view_cNds]
  · simp (disch := omega) only [go_sem, ↓IntWalk.iteOmega, IntWalk.toNatUp, Nat.reduceEqDiff, Nat.reduceAdd, Nat.reduceMul, Nat.reduceSub, Nat.reduceLT, Nat.reduceLeDiff, Int.reduceToNat, Int.reduceLT, Int.reduceLE, Int.reduceEq, Int.reduceAdd, Int.reduceSub, Int.reduceMul, Int.toNat_natCast, reduceCtorEq, decide_true, decide_false, IntWalk.i64_in, IntWalk.u64_in, IntWalk.u8_in, hwi, e, buildN]
    refine join_loop k n l hpart X hp 4 _ _ _ _ (by omega) (by omega) rfl rfl rfl rfl rfl ⟨_, rfl, rfl⟩ rfl ?_
    rintro a o nx h2 ⟨v, ho2, hHS⟩
    simp (disch := omega) only [go_sem, ↓IntWalk.iteOmega, IntWalk.toNatUp, Nat.reduceEqDiff, Nat.reduceAdd, Nat.reduceMul, Nat.reduceSub, Nat.reduceLT, Nat.reduceLeDiff, Int.reduceToNat, Int.reduceLT, Int.reduceLE, Int.reduceEq, Int.reduceAdd, Int.reduceSub, Int.reduceMul, Int.toNat_natCast, reduceCtorEq, decide_true, decide_false, IntWalk.i64_in, IntWalk.u64_in, IntWalk.u8_in, h2, ho2]
    rw [hHS.view, nodeV, cNd_mk, slN, List.length_map, List.length_range, makeNs_length, view_cNds]
  · simp (disch := omega) only [go_sem, ↓IntWalk.iteOmega, IntWalk.toNatUp, Nat.reduceEqDiff, Nat.reduceAdd, Nat.reduceMul, Nat.reduceSub, Nat.reduceLT, Nat.reduceLeDiff, Int.reduceToNat, Int.reduceLT, Int.reduceLE, Int.reduceEq, Int.reduceAdd, Int.reduceSub, Int.reduceMul, Int.toNat_natCast, reduceCtorEq, decide_true, decide_false, IntWalk.i64_in, IntWalk.u64_in, IntWalk.u8_in, hwi, e, buildN]
    refine union_loop k n l hpart X hp 5 _ _ _ _ (by omega) (by omega) rfl rfl rfl rfl rfl ⟨_, rfl, rfl⟩ rfl ?_
    rintro a o nx h2 ⟨v, ho2, hHS⟩
    simp (disch := omega) only [go_sem, ↓IntWalk.iteOmega, IntWalk.toNatUp, Nat.reduceEqDiff, Nat.reduceAdd, Nat.reduceMul, Nat.reduceSub, Nat.reduceLT, Nat.reduceLeDiff, Int.reduceToNat, Int.reduceLT, Int.reduceLE, Int.reduceEq, Int.reduceAdd, Int.reduceSub, Int.reduceMul, Int.toNat_natCast, reduceCtorEq, decide_true, decide_false, IntWalk.i64_in, IntWalk.u64_in, IntWalk.u8_in, h2, ho2]
    rw [hHS.view, nodeV, cNd_mk, slN, List.length_map, List.length_range, makeNs_length, view_cNds]
  · simp (disch := omega) only [go_sem, ↓IntWalk.iteOmega, IntWalk.toNatUp, Nat.reduceEqDiff, Nat.reduceAdd, Nat.reduceMul, Nat.reduceSub, Nat.reduceLT, Nat.reduceLeDiff, Int.reduceToNat, Int.reduceLT, Int.reduceLE, Int.reduceEq, Int.reduceAdd, Int.reduceSub, Int.reduceMul, Int.toNat_natCast, reduceCtorEq, decide_true, decide_false, IntWalk.i64_in, IntWalk.u64_in, IntWalk.u8_in, hwi, e, buildN]
    refine union_loop k n l hpart X hp 5 _ _ _ _ (by omega) (by omega) rfl rfl rfl rfl rfl ⟨_, rfl, rfl⟩ rfl ?_
    rintro a o nx h2 ⟨v, ho2, hHS⟩
    simp (disch := omega) only [go_sem, ↓IntWalk.iteOmega, IntWalk.toNatUp, Nat.reduceEqDiff, Nat.reduceAdd, Nat.reduceMul, Nat.reduceSub, Nat.reduceLT, Nat.reduceLeDiff, Int.reduceToNat, Int.reduceLT, Int.reduceLE, Int.reduceEq, Int.reduceAdd, Int.reduceSub, Int.reduceMul, Int.toNat_natCast, reduceCtorEq, decide_true, decide_false, IntWalk.i64_in, IntWalk.u64_in, IntWalk.u8_in, h2, ho2]
    rw [hHS.view, nodeV, cNd_mk, slN, List.length_map, List.length_range, makeNs_length, view_cNds]
  · simp (disch := omega) only [go_sem, ↓IntWalk.iteOmega, IntWalk.toNatUp, Nat.reduceEqDiff, Nat.reduceAdd, Nat.reduceMul, Nat.reduceSub, Nat.reduceLT, Nat.reduceLeDiff, Int.reduceToNat, Int.reduceLT, Int.reduceLE, Int.reduceEq, Int.reduceAdd, Int.reduceSub, Int.reduceMul, Int.toNat_natCast, reduceCtorEq, decide_true, decide_false, IntWalk.i64_in, IntWalk.u64_in, IntWalk.u8_in, hwi, e, buildN, hp0]
    simp only [nodeV, cNd_mk, slN, cNds_one, List.length_cons, List.length_nil]
  · simp (disch := omega) only [go_sem, ↓IntWalk.iteOmega, IntWalk.toNatUp, Nat.reduceEqDiff, Nat.reduceAdd, Nat.reduceMul, Nat.reduceSub, Nat.reduceLT, Nat.reduceLeDiff, Int.reduceToNat, Int.reduceLT, Int.reduceLE, Int.reduceEq, Int.reduceAdd, Int.reduceSub, Int.reduceMul, Int.toNat_natCast, reduceCtorEq, decide_true, decide_false, IntWalk.i64_in, IntWalk.u64_in, IntWalk.u8_in, hwi, e, buildN, hp0]
    simp only [nodeV, cNd_mk, slN, cNds_one, List.length_cons, List.length_nil]
  · simp (disch := omega) only [go_sem, ↓IntWalk.iteOmega, IntWalk.toNatUp, Nat.reduceEqDiff, Nat.reduceAdd, Nat.reduceMul, Nat.reduceSub, Nat.reduceLT, Nat.reduceLeDiff, Int.reduceToNat, Int.reduceLT, Int.reduceLE, Int.reduceEq, Int.reduceAdd, Int.reduceSub, Int.reduceMul, Int.toNat_natCast, reduceCtorEq, decide_true, decide_false, IntWalk.i64_in, IntWalk.u64_in, IntWalk.u8_in, hwi, e, buildN, hp0]
    simp only [nodeV, cNd_mk, slN, cNds_one, List.length_cons, List.length_nil]
  · have h4 := Int.emod_nonneg n (show (4 : Int) ≠ 0 by decide)
    have h4' := Int.emod_lt_of_pos n (show (0 : Int) < 4 by decide)
    have h5 := Int.emod_nonneg (IntKind.i64.wrap (n.tdiv 4)) (show (3 : Int) ≠ 0 by decide)
    have h5' := Int.emod_lt_of_pos (IntKind.i64.wrap (n.tdiv 4)) (show (0 : Int) < 3 by decide)
    simp (disch := omega) only [go_sem, ↓IntWalk.iteOmega, IntWalk.toNatUp, Nat.reduceEqDiff, Nat.reduceAdd, Nat.reduceMul, Nat.reduceSub, Nat.reduceLT, Nat.reduceLeDiff, Int.reduceToNat, Int.reduceLT, Int.reduceLE, Int.reduceEq, Int.reduceAdd, Int.reduceSub, Int.reduceMul, Int.toNat_natCast, reduceCtorEq, decide_true, decide_false, IntWalk.i64_in, IntWalk.u64_in, IntWalk.u8_in, hwi, e, buildN, hp0, nz34]
    simp only [nodeV, cNd_mk, slN, cNds_one, List.length_cons, List.length_nil]
theorem rmake_ok : ∀ r : Rw, Ok Tryd.prog 31 [rawV r] (nodeV (makeN r))
  | .mk k n l => by
    rw [makeN]
    refine make1_ok k n l (fun i hi => part_ok k n l (fun j hj => ?_) i (by omega))
    have : SizeOf.sizeOf (l.getD j default) < 1 + SizeOf.sizeOf k + SizeOf.sizeOf n + SizeOf.sizeOf l := by
      rw [List.getD_eq_getElem?_getD, List.getElem?_eq_getElem hj, Option.getD_some]
      have := List.sizeOf_lt_of_mem (List.getElem_mem hj)
      omega
    exact rmake_ok (l.getD j default)
termination_by r => SizeOf.sizeOf r
decreasing_by
  simp only [Rw.mk.sizeOf_spec]; exact this
end Go.Proofs.YtmcbfbpdfbcakaaDoor.A
/- size, Few, One: of raw expressions. -/
namespace Go.Proofs.YtmcbfbpdfbcakaaDoor.A
open Go
set_option maxRecDepth 20000
def kids : Rw → List Rw
  | .mk _ _ l => l
def szStep (f : List Rw → Int) (n : Int) (r : Rw) : Int := if n ≤ 14 then n + 1 + f (kids r) else n
def szD : Nat → List Rw → Int
  | 0, _ => 1000
  | d + 1, l => l.foldl (szStep (szD d)) 0
theorem sz_stuck {f : List Rw → Int} {n : Int} (h : ¬ n ≤ 14) : ∀ l : List Rw, l.foldl (szStep f) n = n
  | [] => rfl
  | r :: l => by rw [List.foldl_cons, szStep, if_neg h]; exact sz_stuck h l
theorem sz_in : ∀ (d : Nat) (l : List Rw), 0 ≤ szD d l ∧ szD d l ≤ 1000 + 15 * d
  | 0, l => by rw [szD]; omega
  | d + 1, l => by
    rw [szD]
    have : ∀ (l : List Rw) (n : Int), 0 ≤ n → n ≤ 1000 + 15 * (d + 1) → 0 ≤ l.foldl (szStep (szD d)) n ∧ l.foldl (szStep (szD d)) n ≤ 1000 + 15 * (d + 1) := by
      intro l
      induction l with
      | nil => exact fun n h1 h2 => ⟨h1, h2⟩
      | cons r l ih =>
        intro n h1 h2
        rw [List.foldl_cons]
        have := sz_in d (kids r)
        refine ih _ ?_ ?_ <;> unfold szStep <;> split <;> omega
    have := this l 0 (by omega) (by omega)
    omega
def RSize (d : Nat) (args : List AV) (r : AV) : Prop := ∃ l, args = [slR l, .int .i64 (7 - d)] ∧ r = .int .i64 (szD d l)
theorem RSize_fn (d) : Fun1 (RSize d) := by
  rintro args r r' ⟨l, rfl, rfl⟩ ⟨l', h, rfl⟩
  simp only [List.cons.injEq, AV.sl.injEq, and_true] at h
  rw [cRws_inj h.2]
theorem lookSize (X) : lookedAt (EX md0 X) (fun _ => none) 2 Tryd.f28 = true := by kernel_rfl
theorem size_ok : ∀ (d : Nat) (l : List Rw), d ≤ 7 → Ok Tryd.prog 28 [slR l, .int .i64 (7 - d)] (.int .i64 (szD d l))
  | 0, l, _ => by
    refine ok_of_WP (E := EX md0 (fun _ _ => none)) (cr := noR) (cp_none _) (noR_ok _) mixed (k := 20) Tryd.func28 (lookSize _) rfl ?_
    simp only [Tryd.f28, Option.getD_some, szD]
    simp (disch := omega) only [go_sem, ↓IntWalk.iteOmega, IntWalk.toNatUp, Nat.reduceEqDiff, Nat.reduceAdd, Nat.reduceMul, Nat.reduceSub, Nat.reduceLT, Nat.reduceLeDiff, Int.reduceToNat, Int.reduceLT, Int.reduceLE, Int.reduceEq, Int.reduceAdd, Int.reduceSub, Int.reduceMul, Int.toNat_natCast, reduceCtorEq, decide_true, decide_false, IntWalk.i64_in, IntWalk.u64_in, IntWalk.u8_in]
  | d + 1, l, hd => by
    refine ok_of_WP (E := EX md0 (tabLook [(28, tRel (RSize d))])) (cr := noR) (tab_cons (tab_nil _) (tRel_ok (fun args r h => by obtain ⟨l, rfl, rfl⟩ := h; exact size_ok d l (by omega)))) (noR_ok _) mixed (k := 20) Tryd.func28 (lookSize _) rfl ?_
    have hX : ∀ l : List Rw, tabLook [(28, tRel (RSize d))] 28 [.sl l.length (cRws l), .int .i64 (7 - d)] = some (.int .i64 (szD d l)) := fun l => tRel_eq (RSize_fn d) ⟨l, rfl, rfl⟩
    simp only [Tryd.f28, Option.getD_some]
    have h7 : ¬ ((7 : Int) - (d + 1 : Nat) > 6) := by omega
    simp (disch := omega) only [go_sem, ↓IntWalk.iteOmega, IntWalk.toNatUp, Nat.reduceEqDiff, Nat.reduceAdd, Nat.reduceMul, Nat.reduceSub, Nat.reduceLT, Nat.reduceLeDiff, Int.reduceToNat, Int.reduceLT, Int.reduceLE, Int.reduceEq, Int.reduceAdd, Int.reduceSub, Int.reduceMul, Int.toNat_natCast, reduceCtorEq, decide_true, decide_false, IntWalk.i64_in, IntWalk.u64_in, IntWalk.u8_in, h7]
    have hend : ∀ i, l.foldl (szStep (szD d)) 0 = (l.drop i).foldl (szStep (szD d)) ((l.take i).foldl (szStep (szD d)) 0) := fun i => by rw [← List.foldl_append, List.take_append_drop]
    refine WP_loop (fun m a o nx => ∃ (i : Nat) (s : Int), i ≤ l.length ∧ m = (15 - s).toNat ∧ a 0 = slR l ∧ a 1 = .int .i64 (7 - (d + 1 : Nat)) ∧ a 5 = .int .i64 s ∧ a 6 = .int .i64 i ∧ s = (l.take i).foldl (szStep (szD d)) 0 ∧ (i : Int) ≤ s ∧ s ≤ 2000) 15 (by omega) ⟨0, 0, by omega, rfl, by simp (disch := omega) only [go_sem, ↓IntWalk.iteOmega, IntWalk.toNatUp, Nat.reduceEqDiff, Nat.reduceAdd, Nat.reduceMul, Nat.reduceSub, Nat.reduceLT, Nat.reduceLeDiff, Int.reduceToNat, Int.reduceLT, Int.reduceLE, Int.reduceEq, Int.reduceAdd, Int.reduceSub, Int.reduceMul, Int.toNat_natCast, reduceCtorEq, decide_true, decide_false, IntWalk.i64_in, IntWalk.u64_in, IntWalk.u8_in], by simp (disch := omega) only [go_sem, ↓IntWalk.iteOmega, IntWalk.toNatUp, Nat.reduceEqDiff, Nat.reduceAdd, Nat.reduceMul, Nat.reduceSub, Nat.reduceLT, Nat.reduceLeDiff, Int.reduceToNat, Int.reduceLT, Int.reduceLE, Int.reduceEq, Int.reduceAdd, Int.reduceSub, Int.reduceMul, Int.toNat_natCast, reduceCtorEq, decide_true, decide_false, IntWalk.i64_in, IntWalk.u64_in, IntWalk.u8_in], by simp (disch := omega) only [go_sem, ↓IntWalk.iteOmega, IntWalk.toNatUp, Nat.reduceEqDiff, Nat.reduceAdd, Nat.reduceMul, Nat.reduceSub, Nat.reduceLT, Nat.reduceLeDiff, Int.reduceToNat, Int.reduceLT, Int.reduceLE, Int.reduceEq, Int.reduceAdd, Int.reduceSub, Int.reduceMul, Int.toNat_natCast, reduceCtorEq, decide_true, decide_false, IntWalk.i64_in, IntWalk.u64_in, IntWalk.u8_in], by simp (disch := omega) only [go_sem, ↓IntWalk.iteOmega, IntWalk.toNatUp, Nat.reduceEqDiff, Nat.reduceAdd, Nat.reduceMul, Nat.reduceSub, Nat.reduceLT, Nat.reduceLeDiff, Int.reduceToNat, Int.reduceLT, Int.reduceLE, Int.reduceEq, Int.reduceAdd, Int.reduceSub, Int.reduceMul, Int.toNat_natCast, reduceCtorEq, decide_true, decide_false, IntWalk.i64_in, IntWalk.u64_in, IntWalk.u8_in], rfl, by omega, by omega⟩ ?_
    rintro m a o nx ⟨i, s, hi, rfl, h0, h1, h5, h6, hs, hs0, hs1⟩
    have hi6 : (7 : Int) - (d + 1 : Nat) + 1 = 7 - d := by omega
    by_cases hlt : i < l.length
    · have hat := cRws_at hlt
      have htk : (l.take (i + 1)).foldl (szStep (szD d)) 0 = szStep (szD d) s (l.getD i default) := by rw [List.take_succ_eq_append_getElem hlt, List.foldl_append, ← hs, List.getD_eq_getElem?_getD, List.getElem?_eq_getElem hlt]; rfl
      obtain ⟨k, n, ch, hch⟩ : ∃ k n ch, l.getD i default = .mk k n ch := by cases l.getD i default with | mk k n ch => exact ⟨_, _, _, rfl⟩
      have hsz := sz_in d ch
      by_cases h14 : s ≤ 14
      · rw [hch, szStep, if_pos h14] at htk
        rw [hch] at hat
        have hx := hX ch
        simp (disch := omega) only [go_sem, ↓IntWalk.iteOmega, IntWalk.toNatUp, Nat.reduceEqDiff, Nat.reduceAdd, Nat.reduceMul, Nat.reduceSub, Nat.reduceLT, Nat.reduceLeDiff, Int.reduceToNat, Int.reduceLT, Int.reduceLE, Int.reduceEq, Int.reduceAdd, Int.reduceSub, Int.reduceMul, Int.toNat_natCast, reduceCtorEq, decide_true, decide_false, IntWalk.i64_in, IntWalk.u64_in, IntWalk.u8_in, h0, h1, h5, h6, hat, hx, hi6]
        exact ⟨_, by omega, i + 1, _, by omega, rfl, rfl, rfl, by rw [htk]; rfl, by omega, by omega⟩
      · simp (disch := omega) only [go_sem, ↓IntWalk.iteOmega, IntWalk.toNatUp, Nat.reduceEqDiff, Nat.reduceAdd, Nat.reduceMul, Nat.reduceSub, Nat.reduceLT, Nat.reduceLeDiff, Int.reduceToNat, Int.reduceLT, Int.reduceLE, Int.reduceEq, Int.reduceAdd, Int.reduceSub, Int.reduceMul, Int.toNat_natCast, reduceCtorEq, decide_true, decide_false, IntWalk.i64_in, IntWalk.u64_in, IntWalk.u8_in, h0, h1, h5, h6]
        rw [szD, hend i, ← hs, sz_stuck h14]
    · simp (disch := omega) only [go_sem, ↓IntWalk.iteOmega, IntWalk.toNatUp, Nat.reduceEqDiff, Nat.reduceAdd, Nat.reduceMul, Nat.reduceSub, Nat.reduceLT, Nat.reduceLeDiff, Int.reduceToNat, Int.reduceLT, Int.reduceLE, Int.reduceEq, Int.reduceAdd, Int.reduceSub, Int.reduceMul, Int.toNat_natCast, reduceCtorEq, decide_true, decide_false, IntWalk.i64_in, IntWalk.u64_in, IntWalk.u8_in, h0, h1, h5, h6]
      rw [szD, hend i, ← hs, List.drop_of_length_le (by omega)]
      rfl
def fewR (l : List Rw) : Bool := decide (szD 7 l ≤ 14)
theorem lookFew4 (X) : lookedAt (EX md0 X) (fun _ => none) 1 Tryd.f14 = true := by kernel_rfl
theorem few4_ok (l : List Rw) : Ok Tryd.prog 14 [slR l] (.bool (fewR l)) := by
  refine ok_of_WP (E := EX md0 (tabLook [(28, tRel (RSize 7))])) (cr := noR) (tab_cons (tab_nil _) (tRel_ok (fun args r h => by obtain ⟨l, rfl, rfl⟩ := h; exact size_ok 7 l (by omega)))) (noR_ok _) mixed (k := 0) Tryd.func14 (lookFew4 _) rfl ?_
  have hX : tabLook [(28, tRel (RSize 7))] 28 [.sl l.length (cRws l), .int .i64 0] = some (.int .i64 (szD 7 l)) := tRel_eq (RSize_fn 7) ⟨l, rfl, rfl⟩
  simp only [Tryd.f14, Option.getD_some]
  simp (disch := omega) only [go_sem, ↓IntWalk.iteOmega, IntWalk.toNatUp, Nat.reduceEqDiff, Nat.reduceAdd, Nat.reduceMul, Nat.reduceSub, Nat.reduceLT, Nat.reduceLeDiff, Int.reduceToNat, Int.reduceLT, Int.reduceLE, Int.reduceEq, Int.reduceAdd, Int.reduceSub, Int.reduceMul, Int.toNat_natCast, reduceCtorEq, decide_true, decide_false, IntWalk.i64_in, IntWalk.u64_in, IntWalk.u8_in, hX]
  rfl
def oneN (l : List Rw) : Nd := match l with | [] => .mk 1 1 0 0 [] | r :: _ => makeN r
def RMakeN (args : List AV) (r : AV) : Prop := ∃ x, args = [rawV x] ∧ r = nodeV (makeN x)
theorem RMakeN_fn : Fun1 RMakeN := by
  rintro args r r' ⟨i, rfl, rfl⟩ ⟨j, h, rfl⟩
  simp only [List.cons.injEq, AV.agg.injEq, and_true] at h
  rw [cRw_inj h]
theorem lookOne (X) : lookedAt (EX md0 X) (fun _ => none) 1 Tryd.f16 = true := by kernel_rfl
theorem one_ok (l : List Rw) : Ok Tryd.prog 16 [slR l] (nodeV (oneN l)) := by
  refine ok_of_WP (E := EX md0 (tabLook [(31, tRel RMakeN)])) (cr := noR) (tab_cons (tab_nil _) (tRel_ok (fun args r h => by obtain ⟨l, rfl, rfl⟩ := h; exact rmake_ok l))) (noR_ok _) mixed (k := 0) Tryd.func16 (lookOne _) rfl ?_
  simp only [Tryd.f16, Option.getD_some]
  cases l with
  | nil =>
    simp (disch := omega) only [go_sem, ↓IntWalk.iteOmega, IntWalk.toNatUp, Nat.reduceEqDiff, Nat.reduceAdd, Nat.reduceMul, Nat.reduceSub, Nat.reduceLT, Nat.reduceLeDiff, Int.reduceToNat, Int.reduceLT, Int.reduceLE, Int.reduceEq, Int.reduceAdd, Int.reduceSub, Int.reduceMul, Int.toNat_natCast, reduceCtorEq, decide_true, decide_false, IntWalk.i64_in, IntWalk.u64_in, IntWalk.u8_in]
    simp only [nodeV, oneN, cNd_mk, slN, cNds_nil, List.length_nil]
  | cons r l =>
    have hX : tabLook [(31, tRel RMakeN)] 31 [.agg (cRw r)] = some (nodeV (makeN r)) := tRel_eq RMakeN_fn ⟨r, rfl, rfl⟩
    have hat := cRws_cons r l
    simp (disch := omega) only [go_sem, ↓IntWalk.iteOmega, IntWalk.toNatUp, Nat.reduceEqDiff, Nat.reduceAdd, Nat.reduceMul, Nat.reduceSub, Nat.reduceLT, Nat.reduceLeDiff, Int.reduceToNat, Int.reduceLT, Int.reduceLE, Int.reduceEq, Int.reduceAdd, Int.reduceSub, Int.reduceMul, Int.toNat_natCast, reduceCtorEq, decide_true, decide_false, IntWalk.i64_in, IntWalk.u64_in, IntWalk.u8_in, hX, hat]
    rfl
end Go.Proofs.YtmcbfbpdfbcakaaDoor.A
/- Raw expressions' trees are right, slim, not high. -/
namespace Go.Proofs.YtmcbfbpdfbcakaaDoor.A
open Go
set_option maxRecDepth 20000
mutual
def slimN : Nd → Bool
  | .mk _ _ _ _ l => decide (l.length ≤ 4) && slimNs l
def slimNs : List Nd → Bool
  | [] => true
  | x :: l => slimN x && slimNs l
end
mutual
def dN : Nd → Nat
  | .mk _ _ _ _ l => dNs l + 1
def dNs : List Nd → Nat
  | [] => 0
  | x :: l => max (dN x) (dNs l)
end
theorem slimNs_all {l : List Nd} : slimNs l = l.all slimN := by
  induction l with
  | nil => rw [slimNs]; rfl
  | cons x l ih => rw [slimNs, ih, List.all_cons]
mutual
theorem slim_wide : ∀ n : Nd, slimN n = true → wideN n = true
  | .mk k s lo hi l, h => by
    rw [slimN, Bool.and_eq_true, decide_eq_true_eq] at h
    rw [wideN, Bool.and_eq_true, decide_eq_true_eq]
    exact ⟨by omega, slims_wide l h.2⟩
theorem slims_wide : ∀ l : List Nd, slimNs l = true → wideNs l = true
  | [], _ => by rw [wideNs]
  | x :: l, h => by
    rw [slimNs, Bool.and_eq_true] at h
    rw [wideNs, slim_wide x h.1, slims_wide l h.2]; rfl
end
def okR (h : Nat) (x : Nd) : Prop := rightN x = true ∧ slimN x = true ∧ dN x ≤ h
theorem okR.mono {h h' x} (hx : okR h x) (hh : h ≤ h') : okR h' x := ⟨hx.1, hx.2.1, Nat.le_trans hx.2.2 hh⟩
theorem okR_list : ∀ (l : List Nd) (h : Nat), (∀ x ∈ l, okR h x) → rightNs l = true ∧ slimNs l = true ∧ dNs l ≤ h
  | [], h, _ => ⟨by rw [rightNs], by rw [slimNs], by rw [dNs]; omega⟩
  | x :: l, h, hl => by
    obtain ⟨h1, h2, h3⟩ := hl x List.mem_cons_self
    obtain ⟨g1, g2, g3⟩ := okR_list l h (fun y hy => hl y (List.mem_cons_of_mem _ hy))
    rw [rightNs, slimNs, dNs, h1, h2, g1, g2]
    exact ⟨rfl, rfl, by omega⟩
theorem okR_mk {k s lo hi : Int} {l : List Nd} {h : Nat} (hh : headN k s lo hi l.length = true) (hn : l.length ≤ 4) (hl : ∀ x ∈ l, okR h x) : okR (h + 1) (.mk k s lo hi l) := by
  obtain ⟨g1, g2, g3⟩ := okR_list l h hl
  refine ⟨by rw [rightN, hh, g1]; rfl, by rw [slimN, g2, decide_eq_true hn]; rfl, by rw [dN]; omega⟩
theorem sign_inR (x : Int) : 1 ≤ sign x ∧ sign x ≤ 31 := by
  have h1 := Int.emod_nonneg x (show (5 : Int) ≠ 0 by decide)
  have h2 := Int.emod_lt_of_pos x (show (0 : Int) < 5 by decide)
  unfold sign
  obtain ⟨m, hm⟩ : ∃ m, m = x % 5 := ⟨_, rfl⟩
  rw [← hm] at h1 h2 ⊢
  have : m = 0 ∨ m = 1 ∨ m = 2 ∨ m = 3 ∨ m = 4 := by omega
  rcases this with rfl | rfl | rfl | rfl | rfl <;> decide
theorem head_set {s : Int} (h : 1 ≤ s ∧ s ≤ 31) : headN 1 s 0 0 ([] : List Nd).length = true := by
  simp [headN, countN, h.1, h.2]
theorem okR_leaf {s : Int} (h : 1 ≤ s ∧ s ≤ 31) : okR 1 (.mk 1 s 0 0 []) := okR_mk (h := 0) (head_set h) (by simp) (fun x hx => by cases hx)
theorem partN_okR (n : Int) (ls : List Nd) (h : Nat) (h1 : 1 ≤ h) (hl : ∀ x ∈ ls, okR h x) (i : Nat) : okR h (partN n ls i) := by
  unfold partN
  split
  · rename_i hi
    rw [List.getD_eq_getElem?_getD, List.getElem?_eq_getElem hi]
    exact hl _ (List.getElem_mem hi)
  · exact (okR_leaf (sign_inR _)).mono h1
theorem many_okR (n : Int) (ls : List Nd) (h : Nat) (h1 : 1 ≤ h) (hl : ∀ x ∈ ls, okR h x) (k : Nat) : ∀ x ∈ (List.range k).map (partN n ls), okR h x := by
  intro x hx
  obtain ⟨i, _, rfl⟩ := List.mem_map.1 hx
  exact partN_okR n ls h h1 hl i
theorem buildN_okR (k n : Int) (ls : List Nd) (h : Nat) (h1 : 1 ≤ h) (hl : ∀ x ∈ ls, okR h x) : okR (h + 1) (buildN k n ls) := by
  have hm := many4_in ls.length
  have hp0 := partN_okR n ls h h1 hl 0
  have n4 : 0 ≤ n % 4 ∧ n % 4 < 4 := ⟨Int.emod_nonneg _ (by decide), Int.emod_lt_of_pos _ (by decide)⟩
  have n3 : 0 ≤ IntKind.i64.wrap (n.tdiv 4) % 3 ∧ IntKind.i64.wrap (n.tdiv 4) % 3 < 3 := ⟨Int.emod_nonneg _ (by decide), Int.emod_lt_of_pos _ (by decide)⟩
  have n31 : 0 ≤ n % 31 ∧ n % 31 < 31 := ⟨Int.emod_nonneg _ (by decide), Int.emod_lt_of_pos _ (by decide)⟩
  have hlist := many_okR n ls h h1 hl (many4 ls.length)
  have hlen : ((List.range (many4 ls.length)).map (partN n ls)).length = many4 ls.length := by simp
  have one : ∀ x ∈ [partN n ls 0], okR h x := fun x hx => by rw [List.mem_singleton.1 hx]; exact hp0
  unfold buildN
  repeat' split
  · exact (okR_leaf ⟨by omega, by omega⟩).mono (by omega)
  · exact (okR_leaf (sign_inR _)).mono (by omega)
  · exact okR_mk (by simp [headN, countN]) (by simp) (fun x hx => by cases hx)
  · exact okR_mk (by simp [headN, countN]) (by simp) (fun x hx => by cases hx)
  · refine okR_mk ?_ (by omega) hlist
    rw [hlen]; simp [headN, countN]; omega
  · refine okR_mk ?_ (by omega) hlist
    rw [hlen]; simp [headN, countN]; omega
  · exact okR_mk (by simp [headN, countN]) (by simp) one
  · exact okR_mk (by simp [headN, countN]) (by simp) one
  · exact okR_mk (by simp [headN, countN]) (by simp) one
  · refine okR_mk ?_ (by simp) one
    simp [headN, countN]; omega
theorem fold_leR {f : List Rw → Int} (hf : ∀ l, 0 ≤ f l) : ∀ (l : List Rw) (n : Int), l.foldl (szStep f) n ≤ 14 → n ≤ 14 ∧ ∀ r ∈ l, f (kids r) ≤ 14 ∨ n < 0
  | [], n, h => ⟨h, fun r hr => by cases hr⟩
  | r :: l, n, h => by
    rw [List.foldl_cons] at h
    obtain ⟨h1, h2⟩ := fold_leR hf l _ h
    have := hf (kids r)
    unfold szStep at h1 h2
    split at h1
    · rename_i hn
      rw [if_pos hn] at h2
      refine ⟨by omega, fun q hq => ?_⟩
      rcases List.mem_cons.1 hq with rfl | hq
      · omega
      · have := h2 q hq; omega
    · omega
theorem makeNs_memR : ∀ {l : List Rw} {x : Nd}, x ∈ makeNs l → ∃ r ∈ l, x = makeN r
  | [], x, h => by rw [makeNs] at h; cases h
  | r :: l, x, h => by
    rw [makeNs] at h
    rcases List.mem_cons.1 h with rfl | h
    · exact ⟨r, List.mem_cons_self, rfl⟩
    · obtain ⟨q, hq, e⟩ := makeNs_memR h
      exact ⟨q, List.mem_cons_of_mem _ hq, e⟩
theorem made_okR : ∀ (d : Nat) (l : List Rw), szD d l ≤ 14 → ∀ r ∈ l, okR (d + 1) (makeN r)
  | 0, l, h, _, _ => by rw [szD] at h; omega
  | d + 1, l, h, r, hr => by
    rw [szD] at h
    obtain ⟨_, h2⟩ := fold_leR (fun l => (sz_in d l).1) l 0 h
    have h3 : szD d (kids r) ≤ 14 := by have := h2 r hr; omega
    obtain ⟨k, n, ch⟩ := r
    have ih := made_okR d ch h3
    rw [makeN]
    exact buildN_okR k n _ (d + 1) (by omega) (fun x hx => by obtain ⟨q, hq, rfl⟩ := makeNs_memR hx; exact ih q hq)
theorem oneN_okR {l : List Rw} (h : fewR l = true) : okR 8 (oneN l) := by
  unfold fewR at h
  rw [decide_eq_true_eq] at h
  unfold oneN
  cases l with
  | nil => exact (okR_leaf ⟨by omega, by omega⟩).mono (by omega)
  | cons r l => exact made_okR 7 _ h r List.mem_cons_self
end Go.Proofs.YtmcbfbpdfbcakaaDoor.A
