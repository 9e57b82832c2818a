/- RegexAgain answers true for whatever it is called with. -/
import Derived.Test.YtmcbfbpdfbcakaaDoorMLRAgain1
import Derived.Test.YtmcbfbpdfbcakaaDoorMLRAgain2
import Derived.Test.YtmcbfbpdfbcakaaDoorMLRAgain3
import Derived.Test.YtmcbfbpdfbcakaaDoorMLRAgain4
import Derived.Test.YtmcbfbpdfbcakaaDoorMLRAgain5
import Derived.Test.YtmcbfbpdfbcakaaDoorMLRAgain6
import Derived.Test.YtmcbfbpdfbcakaaDoorMLRAgain7
import Derived.Test.YtmcbfbpdfbcakaaDoorMLRAgain8
set_option linter.unusedVariables false
set_option linter.unusedSimpArgs false
set_option linter.unnecessarySimpa false
/- regex.Text: its contract. -/
namespace Go.Proofs.YtmcbfbpdfbcakaaDoor.A
open Go
set_option maxRecDepth 20000
/-! ### sets, digits -/
theorem rset_all : ((List.range 31).map fun q => (calls E4 1000).1 53 [.int .i64 ((q + 1 : Nat) : Int)]) = (List.range 31).map fun q => some (.str (setS (q + 1))) := by kernel_rfl
theorem rset_at {s : Nat} (h0 : 1 ≤ s) (h1 : s ≤ 31) : (calls E4 1000).1 53 [.int .i64 (s : Int)] = some (.str (setS s)) := by
  have := map_at rset_all (q := s - 1) (by omega)
  rwa [show s - 1 + 1 = s by omega] at this
theorem itoa_dig : ∀ d : Fin 10, Lib.itoa (d.1 : Int) = [dig d.1] := by decide +kernel
theorem itoa_at {d : Int} (h0 : 0 ≤ d) (h1 : d ≤ 9) : Lib.itoa d = [dig d.toNat] := by
  have := itoa_dig ⟨d.toNat, by omega⟩
  rwa [Int.toNat_of_nonneg h0] at this
/-! ### lengths -/
theorem join_mem_le {t : List UInt8} {l : List (List UInt8)} (h : t ∈ l) (sep : List UInt8) : t.length ≤ (Lib.join l sep).length := by
  induction l with
  | nil => cases h
  | cons u l ih =>
    cases l with
    | nil => rw [List.mem_singleton.1 h, join_one]; omega
    | cons v l =>
      rw [join_cons2, List.length_append, List.length_append]
      rcases List.mem_cons.1 h with rfl | h
      · omega
      · have := ih h; omega
theorem text_kid {k s lo hi w : Int} {l : List Nd} {x : Nd} (hr : rightN (.mk k s lo hi l) = true) (hx : x ∈ l) : (textN k x).length ≤ (textN w (.mk k s lo hi l)).length := by
  obtain ⟨_, hc⟩ := right_cases hr
  rcases hc with ⟨rfl, rfl, _⟩ | ⟨_, rfl, _⟩ | ⟨hk, _⟩ | ⟨hk, _, _, _, y, rfl⟩ | ⟨rfl, _, _, _, _, y, rfl⟩
  · cases hx
  · cases hx
  · rw [textN, if_neg (by omega), if_neg (by omega), if_neg (by omega), if_pos hk]
    have h1 : textN k x ∈ textNs k l := by rw [textNs_map]; exact List.mem_map.2 ⟨x, hx, rfl⟩
    have h2 := join_mem_le h1 (if k = 5 then [124] else [])
    unfold brkS
    split
    · simp; omega
    · exact h2
  · rw [textN, if_neg (by omega), if_neg (by omega), if_neg (by omega), if_neg (by omega), textNs]
    rw [List.mem_singleton.1 hx]
    simp
  · rw [textN, if_neg (by omega), if_neg (by omega), if_neg (by omega), if_neg (by omega), textNs]
    rw [List.mem_singleton.1 hx]
    simp
theorem lookText (X) : lookedAt (EX md0 X) (fun _ => none) 2 Tryd.f45 = true := by kernel_rfl
def finTx (t : List UInt8) : WPost := fun u a o nx => (u = .normal ∨ u = .ret) ∧ wO (resultsL Tryd.prog a ⟨o, nx⟩ Tryd.f45.results.toList) (fun vs => view o vDepth (tup1 vs) = .str t)
theorem text_leaf (k s : Int) (w : Int) (h : (k = 1 ∧ 1 ≤ s ∧ s ≤ 31) ∨ (k = 2 ∧ s = 0) ∨ (k = 3 ∧ s = 0)) (X : FuncId → List AV → Option AV) (hset : ∀ s : Nat, 1 ≤ s → s ≤ 31 → X 53 [.int .i64 s] = some (.str (setS s))) :
    WP (EX md0 X) noR 1002 (fun _ => none) (Tryd.f45.body.getD .skip) (begin_ [nodeV (.mk k s 0 0 []), .int .i64 w]) (fun _ => none) 0 (finTx (textN w (.mk k s 0 0 []))) := by
  simp only [Tryd.f45, Option.getD_some, nodeV, cNd_mk]
  rcases h with ⟨rfl, h0, h1⟩ | ⟨rfl, rfl⟩ | ⟨rfl, rfl⟩
  · have h2 := hset s.toNat (by omega) (by omega)
    rw [Int.toNat_of_nonneg (by omega)] at h2
    simp (disch := omega) only [go_sem, ↓IntWalk.iteOmega, IntWalk.toNatUp, Nat.reduceEqDiff, Nat.reduceAdd, Nat.reduceMul, Nat.reduceSub, Nat.reduceLT, Nat.reduceLeDiff, Int.reduceToNat, Int.reduceLT, Int.reduceLE, Int.reduceEq, Int.reduceAdd, Int.reduceSub, Int.reduceMul, Int.toNat_natCast, reduceCtorEq, decide_true, decide_false, IntWalk.i64_in, IntWalk.u64_in, IntWalk.u8_in, h2]
    refine ⟨.inr rfl, ?_⟩
    simp only [Tryd.f45]
    simp (disch := omega) only [go_sem, ↓IntWalk.iteOmega, IntWalk.toNatUp, Nat.reduceEqDiff, Nat.reduceAdd, Nat.reduceMul, Nat.reduceSub, Nat.reduceLT, Nat.reduceLeDiff, Int.reduceToNat, Int.reduceLT, Int.reduceLE, Int.reduceEq, Int.reduceAdd, Int.reduceSub, Int.reduceMul, Int.toNat_natCast, reduceCtorEq, decide_true, decide_false, IntWalk.i64_in, IntWalk.u64_in, IntWalk.u8_in]
    rw [textN, if_pos rfl]
  · simp (disch := omega) only [go_sem, ↓IntWalk.iteOmega, IntWalk.toNatUp, Nat.reduceEqDiff, Nat.reduceAdd, Nat.reduceMul, Nat.reduceSub, Nat.reduceLT, Nat.reduceLeDiff, Int.reduceToNat, Int.reduceLT, Int.reduceLE, Int.reduceEq, Int.reduceAdd, Int.reduceSub, Int.reduceMul, Int.toNat_natCast, reduceCtorEq, decide_true, decide_false, IntWalk.i64_in, IntWalk.u64_in, IntWalk.u8_in]
    refine ⟨.inr rfl, ?_⟩
    simp only [Tryd.f45]
    simp (disch := omega) only [go_sem, ↓IntWalk.iteOmega, IntWalk.toNatUp, Nat.reduceEqDiff, Nat.reduceAdd, Nat.reduceMul, Nat.reduceSub, Nat.reduceLT, Nat.reduceLeDiff, Int.reduceToNat, Int.reduceLT, Int.reduceLE, Int.reduceEq, Int.reduceAdd, Int.reduceSub, Int.reduceMul, Int.toNat_natCast, reduceCtorEq, decide_true, decide_false, IntWalk.i64_in, IntWalk.u64_in, IntWalk.u8_in]
    rw [textN, if_neg (by decide), if_pos rfl]
  · simp (disch := omega) only [go_sem, ↓IntWalk.iteOmega, IntWalk.toNatUp, Nat.reduceEqDiff, Nat.reduceAdd, Nat.reduceMul, Nat.reduceSub, Nat.reduceLT, Nat.reduceLeDiff, Int.reduceToNat, Int.reduceLT, Int.reduceLE, Int.reduceEq, Int.reduceAdd, Int.reduceSub, Int.reduceMul, Int.toNat_natCast, reduceCtorEq, decide_true, decide_false, IntWalk.i64_in, IntWalk.u64_in, IntWalk.u8_in]
    refine ⟨.inr rfl, ?_⟩
    simp only [Tryd.f45]
    simp (disch := omega) only [go_sem, ↓IntWalk.iteOmega, IntWalk.toNatUp, Nat.reduceEqDiff, Nat.reduceAdd, Nat.reduceMul, Nat.reduceSub, Nat.reduceLT, Nat.reduceLeDiff, Int.reduceToNat, Int.reduceLT, Int.reduceLE, Int.reduceEq, Int.reduceAdd, Int.reduceSub, Int.reduceMul, Int.toNat_natCast, reduceCtorEq, decide_true, decide_false, IntWalk.i64_in, IntWalk.u64_in, IntWalk.u8_in]
    rw [textN, if_neg (by decide), if_neg (by decide), if_pos rfl]
theorem text_post (k lo hi : Int) (x : Nd) (w : Int) (h : ((k = 6 ∨ k = 7 ∨ k = 8) ∧ lo = 0 ∧ hi = 0) ∨ (k = 9 ∧ 0 ≤ lo ∧ lo ≤ hi ∧ hi ≤ 9)) (hlen : (textN w (.mk k 0 lo hi [x])).length ≤ 100000000) (X : FuncId → List AV → Option AV) (hch : X 45 [nodeV x, .int .i64 k] = some (.str (textN k x)))
    (hit : ∀ d : Int, 0 ≤ d → d ≤ 9 → X 55 [.int .i64 d] = some (.str [dig d.toNat])) :
    WP (EX md0 X) noR 1002 (fun _ => none) (Tryd.f45.body.getD .skip) (begin_ [nodeV (.mk k 0 lo hi [x]), .int .i64 w]) (fun _ => none) 0 (finTx (textN w (.mk k 0 lo hi [x]))) := by
  have ht : textN w (.mk k 0 lo hi [x]) = textN k x ++ tailS k lo hi := by
    rw [textN, if_neg (by omega), if_neg (by omega), if_neg (by omega), if_neg (by omega), textNs]; rfl
  have hat : cNds [x] = cNd x ++ [] := by rw [cNds_one, List.append_nil]
  rw [ht] at hlen ⊢
  rw [List.length_append] at hlen
  simp only [nodeV] at hch
  simp only [Tryd.f45, Option.getD_some, nodeV, cNd_mk, slN, List.length_singleton, hat]
  generalize textN k x = t at *
  rcases h with ⟨rfl | rfl | rfl, rfl, rfl⟩ | ⟨rfl, h0, h1, h2⟩
  · simp (disch := omega) only [go_sem, ↓IntWalk.iteOmega, IntWalk.toNatUp, Nat.reduceEqDiff, Nat.reduceAdd, Nat.reduceMul, Nat.reduceSub, Nat.reduceLT, Nat.reduceLeDiff, Int.reduceToNat, Int.reduceLT, Int.reduceLE, Int.reduceEq, Int.reduceAdd, Int.reduceSub, Int.reduceMul, Int.toNat_natCast, reduceCtorEq, decide_true, decide_false, IntWalk.i64_in, IntWalk.u64_in, IntWalk.u8_in, hch]
    refine ⟨.inr rfl, ?_⟩
    simp only [Tryd.f45]
    simp (disch := omega) only [go_sem, ↓IntWalk.iteOmega, IntWalk.toNatUp, Nat.reduceEqDiff, Nat.reduceAdd, Nat.reduceMul, Nat.reduceSub, Nat.reduceLT, Nat.reduceLeDiff, Int.reduceToNat, Int.reduceLT, Int.reduceLE, Int.reduceEq, Int.reduceAdd, Int.reduceSub, Int.reduceMul, Int.toNat_natCast, reduceCtorEq, decide_true, decide_false, IntWalk.i64_in, IntWalk.u64_in, IntWalk.u8_in]
    rfl
  · simp (disch := omega) only [go_sem, ↓IntWalk.iteOmega, IntWalk.toNatUp, Nat.reduceEqDiff, Nat.reduceAdd, Nat.reduceMul, Nat.reduceSub, Nat.reduceLT, Nat.reduceLeDiff, Int.reduceToNat, Int.reduceLT, Int.reduceLE, Int.reduceEq, Int.reduceAdd, Int.reduceSub, Int.reduceMul, Int.toNat_natCast, reduceCtorEq, decide_true, decide_false, IntWalk.i64_in, IntWalk.u64_in, IntWalk.u8_in, hch]
    refine ⟨.inr rfl, ?_⟩
    simp only [Tryd.f45]
    simp (disch := omega) only [go_sem, ↓IntWalk.iteOmega, IntWalk.toNatUp, Nat.reduceEqDiff, Nat.reduceAdd, Nat.reduceMul, Nat.reduceSub, Nat.reduceLT, Nat.reduceLeDiff, Int.reduceToNat, Int.reduceLT, Int.reduceLE, Int.reduceEq, Int.reduceAdd, Int.reduceSub, Int.reduceMul, Int.toNat_natCast, reduceCtorEq, decide_true, decide_false, IntWalk.i64_in, IntWalk.u64_in, IntWalk.u8_in]
    rfl
  · simp (disch := omega) only [go_sem, ↓IntWalk.iteOmega, IntWalk.toNatUp, Nat.reduceEqDiff, Nat.reduceAdd, Nat.reduceMul, Nat.reduceSub, Nat.reduceLT, Nat.reduceLeDiff, Int.reduceToNat, Int.reduceLT, Int.reduceLE, Int.reduceEq, Int.reduceAdd, Int.reduceSub, Int.reduceMul, Int.toNat_natCast, reduceCtorEq, decide_true, decide_false, IntWalk.i64_in, IntWalk.u64_in, IntWalk.u8_in, hch]
    refine ⟨.inr rfl, ?_⟩
    simp only [Tryd.f45]
    simp (disch := omega) only [go_sem, ↓IntWalk.iteOmega, IntWalk.toNatUp, Nat.reduceEqDiff, Nat.reduceAdd, Nat.reduceMul, Nat.reduceSub, Nat.reduceLT, Nat.reduceLeDiff, Int.reduceToNat, Int.reduceLT, Int.reduceLE, Int.reduceEq, Int.reduceAdd, Int.reduceSub, Int.reduceMul, Int.toNat_natCast, reduceCtorEq, decide_true, decide_false, IntWalk.i64_in, IntWalk.u64_in, IntWalk.u8_in]
    rfl
  · have i1 := hit lo (by omega) (by omega)
    have i2 := hit hi (by omega) (by omega)
    simp (disch := omega) only [go_sem, ↓IntWalk.iteOmega, IntWalk.toNatUp, Nat.reduceEqDiff, Nat.reduceAdd, Nat.reduceMul, Nat.reduceSub, Nat.reduceLT, Nat.reduceLeDiff, Int.reduceToNat, Int.reduceLT, Int.reduceLE, Int.reduceEq, Int.reduceAdd, Int.reduceSub, Int.reduceMul, Int.toNat_natCast, reduceCtorEq, decide_true, decide_false, IntWalk.i64_in, IntWalk.u64_in, IntWalk.u8_in, hch, i1, i2]
    refine ⟨.inr rfl, ?_⟩
    simp only [Tryd.f45]
    simp (disch := omega) only [go_sem, ↓IntWalk.iteOmega, IntWalk.toNatUp, Nat.reduceEqDiff, Nat.reduceAdd, Nat.reduceMul, Nat.reduceSub, Nat.reduceLT, Nat.reduceLeDiff, Int.reduceToNat, Int.reduceLT, Int.reduceLE, Int.reduceEq, Int.reduceAdd, Int.reduceSub, Int.reduceMul, Int.toNat_natCast, reduceCtorEq, decide_true, decide_false, IntWalk.i64_in, IntWalk.u64_in, IntWalk.u8_in]
    simp [tailS]
abbrev strK (k : Int) (l : List Nd) : List AV := l.map fun x => AV.str (textN k x)
theorem text_loop (k w : Int) (l : List Nd) (hl : l.length ≤ 1000) (X : FuncId → List AV → Option AV) (hch : ∀ i, i < l.length → X 45 [nodeV (l.getD i default), .int .i64 k] = some (.str (textN k (l.getD i default)))) {Q : WPost} {a : AAct} {o : Ob} {nx : Nat} (hnx : 1 ≤ nx)
    (a1 : a 1 = .int .i64 w) (a2 : a 2 = .ptr (0, 2) (0, 2) 0) (a6 : a 6 = .nil) (a25 : a 25 = slN l) (a26 : a 26 = .int .i64 l.length) (a27 : a 27 = .int .i64 0) (ho : o (0, 2) = some (.row ⟨29, 1, (0, 2), false, true, [.int .i64 k, .int .i64 0, .int .i64 0, .int .i64 0, slN l]⟩))
    (hQ : ∀ a o nx v, 1 ≤ nx → a 1 = .int .i64 w → a 2 = .ptr (0, 2) (0, 2) 0 → a 6 = v → HS 9 1 37 o nx v l.length (strK k l) → o (0, 2) = some (.row ⟨29, 1, (0, 2), false, true, [.int .i64 k, .int .i64 0, .int .i64 0, .int .i64 0, slN l]⟩) → Q .normal a o nx) :
    WP (EX md0 X) noR 1002 (fun _ => none) (pathC [1, 1, 0, 1, 0, 1, 1, 1, 1, 1, 1, 1, 0, 1, 0, 1, 0] (Tryd.f45.body.getD .skip)) a o nx (blockQ 1 Q) := by
  simp only [Tryd.f45, Option.getD_some, pathC]
  refine WP_loop (fun m a o nx => ∃ (i : Nat) (v : AV), i ≤ l.length ∧ m = l.length - i ∧ 1 ≤ nx ∧ a 1 = .int .i64 w ∧ a 2 = .ptr (0, 2) (0, 2) 0 ∧ a 6 = v ∧ a 25 = slN l ∧ a 26 = .int .i64 l.length ∧ a 27 = .int .i64 i ∧ HS 9 1 37 o nx v i (strK k (l.take i)) ∧ o (0, 2) = some (.row ⟨29, 1, (0, 2), false, true, [.int .i64 k, .int .i64 0, .int .i64 0, .int .i64 0, slN l]⟩)) l.length (by omega) ⟨0, .nil, by omega, by omega, hnx, a1, a2, a6, a25, a26, a27, HS.nil, ho⟩ ?_
  clear a1 a2 a6 a25 a26 a27 ho hnx
  rintro m a o nx ⟨i, v, hi, rfl, hnx, a1, a2, a6, a25, a26, a27, hHS, ho⟩
  have hok := hHS.ok
  by_cases hlt : i < l.length
  · have hat := cNds_at hlt
    have hci := hch i hlt
    simp only [nodeV] at hci
    have hsn : strK k (l.take (i + 1)) = strK k (l.take i) ++ [.str (textN k (l.getD i default))] := by rw [strK, take_succ_getD hlt default, List.map_append]; rfl
    generalize l.getD i default = x at *
    rcases hHS with ⟨rfl, e2, e3⟩ | ⟨i1, g1, rfl, hi1, hrow, hlen⟩
    · simp (disch := omega) only [go_sem, ↓IntWalk.iteOmega, IntWalk.toNatUp, Nat.reduceEqDiff, Nat.reduceAdd, Nat.reduceMul, Nat.reduceSub, Nat.reduceLT, Nat.reduceLeDiff, Int.reduceToNat, Int.reduceLT, Int.reduceLE, Int.reduceEq, Int.reduceAdd, Int.reduceSub, Int.reduceMul, Int.toNat_natCast, reduceCtorEq, decide_true, decide_false, IntWalk.i64_in, IntWalk.u64_in, IntWalk.u8_in, a1, a2, a6, a25, a26, a27, ho, hat, hci]
      refine ⟨_, by omega, i + 1, _, by omega, rfl, rfl, rfl, ?_⟩
      rw [hsn]
      exact .inr ⟨nx + 1 + 1, _, by rw [e2], by omega, by simp [upd_app, e3], by rw [e3]; simp [e2]⟩
    · obtain ⟨cs, hcs⟩ : ∃ cs, cs = strK k (l.take i) := ⟨_, rfl⟩
      rw [← hcs] at hrow hlen hsn
      have htk : cs.take (i * 1) = cs := take_len hlen
      have htk' : cs.take i = cs := take_len (by omega)
      simp (disch := omega) only [go_sem, ↓IntWalk.iteOmega, IntWalk.toNatUp, Nat.reduceEqDiff, Nat.reduceAdd, Nat.reduceMul, Nat.reduceSub, Nat.reduceLT, Nat.reduceLeDiff, Int.reduceToNat, Int.reduceLT, Int.reduceLE, Int.reduceEq, Int.reduceAdd, Int.reduceSub, Int.reduceMul, Int.toNat_natCast, reduceCtorEq, decide_true, decide_false, IntWalk.i64_in, IntWalk.u64_in, IntWalk.u8_in, a1, a2, a6, a25, a26, a27, ho, hat, hci, hrow, hlen, htk, htk']
      refine ⟨_, by omega, i + 1, _, by omega, rfl, rfl, rfl, ?_⟩
      rw [hsn]
      exact .inr ⟨i1, _, rfl, by omega, by simp [upd_app], by rw [List.length_append, hlen]; simp⟩
  · have hie : i = l.length := by omega
    rw [hie, List.take_length] at hHS
    simp (disch := omega) only [go_sem, ↓IntWalk.iteOmega, IntWalk.toNatUp, Nat.reduceEqDiff, Nat.reduceAdd, Nat.reduceMul, Nat.reduceSub, Nat.reduceLT, Nat.reduceLeDiff, Int.reduceToNat, Int.reduceLT, Int.reduceLE, Int.reduceEq, Int.reduceAdd, Int.reduceSub, Int.reduceMul, Int.toNat_natCast, reduceCtorEq, decide_true, decide_false, IntWalk.i64_in, IntWalk.u64_in, IntWalk.u8_in, a1, a2, a6, a25, a26, a27, ho, hok]
    exact hQ _ _ _ v (by omega) (by simp (disch := omega) only [go_sem, ↓IntWalk.iteOmega, IntWalk.toNatUp, Nat.reduceEqDiff, Nat.reduceAdd, Nat.reduceMul, Nat.reduceSub, Nat.reduceLT, Nat.reduceLeDiff, Int.reduceToNat, Int.reduceLT, Int.reduceLE, Int.reduceEq, Int.reduceAdd, Int.reduceSub, Int.reduceMul, Int.toNat_natCast, reduceCtorEq, decide_true, decide_false, IntWalk.i64_in, IntWalk.u64_in, IntWalk.u8_in, a1]) (by simp (disch := omega) only [go_sem, ↓IntWalk.iteOmega, IntWalk.toNatUp, Nat.reduceEqDiff, Nat.reduceAdd, Nat.reduceMul, Nat.reduceSub, Nat.reduceLT, Nat.reduceLeDiff, Int.reduceToNat, Int.reduceLT, Int.reduceLE, Int.reduceEq, Int.reduceAdd, Int.reduceSub, Int.reduceMul, Int.toNat_natCast, reduceCtorEq, decide_true, decide_false, IntWalk.i64_in, IntWalk.u64_in, IntWalk.u8_in, a2]) (by simp (disch := omega) only [go_sem, ↓IntWalk.iteOmega, IntWalk.toNatUp, Nat.reduceEqDiff, Nat.reduceAdd, Nat.reduceMul, Nat.reduceSub, Nat.reduceLT, Nat.reduceLeDiff, Int.reduceToNat, Int.reduceLT, Int.reduceLE, Int.reduceEq, Int.reduceAdd, Int.reduceSub, Int.reduceMul, Int.toNat_natCast, reduceCtorEq, decide_true, decide_false, IntWalk.i64_in, IntWalk.u64_in, IntWalk.u8_in, a6]) (hHS.keep (fun _ _ => rfl) (by omega)) ho
theorem text_many (k w : Int) (l : List Nd) (hk : k = 4 ∨ k = 5) (h2 : 2 ≤ l.length) (hl : l.length ≤ 1000) (hlen : (textN w (.mk k 0 0 0 l)).length ≤ 100000000) (X : FuncId → List AV → Option AV) (hch : ∀ i, i < l.length → X 45 [nodeV (l.getD i default), .int .i64 k] = some (.str (textN k (l.getD i default))))
    (hjn : ∀ (xs : List (List UInt8)) (sep : List UInt8), xs ≠ [] → xs.length ≤ 1000000 → (Lib.join xs sep).length ≤ 100000000 → X 54 [.sl xs.length (xs.map .str), .str sep] = some (.str (Lib.join xs sep))) :
    WP (EX md0 X) noR 1002 (fun _ => none) (Tryd.f45.body.getD .skip) (begin_ [nodeV (.mk k 0 0 0 l), .int .i64 w]) (fun _ => none) 0 (finTx (textN w (.mk k 0 0 0 l))) := by
  have ht : textN w (.mk k 0 0 0 l) = brkS (decide (w ≠ 0 ∧ (k = 5 ∨ w ≠ 5))) (Lib.join (textNs k l) (if k = 5 then [124] else [])) := by
    rw [textN, if_neg (by omega), if_neg (by omega), if_neg (by omega), if_pos hk]
  have hjl : (Lib.join (textNs k l) (if k = 5 then [124] else [])).length ≤ 100000000 - 2 ∨ (Lib.join (textNs k l) (if k = 5 then [124] else [])).length ≤ 100000000 := by
    rw [ht, brkS] at hlen
    split at hlen
    · left; simp at hlen; omega
    · right; omega
  have hj := hjn (textNs k l) (if k = 5 then [124] else []) (by rw [textNs_map]; intro e; rw [List.map_eq_nil_iff] at e; rw [e] at h2; simp at h2) (by rw [textNs_map, List.length_map]; omega) (by omega)
  rw [textNs_map, List.length_map, List.map_map] at hj
  rw [ht, textNs_map]
  clear ht hjn
  have hq : ∀ (o : Ob) (v : AV) (nx : Nat), HS 9 1 37 o nx v l.length (strK k l) → view o 1012 v = .sl l.length (strK k l) := fun o v nx h => by
    rw [h.view 1011, strK, List.map_map]
    congr 1
  have hj : X 54 [.sl l.length (strK k l), .str (if k = 5 then [124] else [])] = some (.str (Lib.join (l.map (textN k)) (if k = 5 then [124] else []))) := hj
  rw [textNs_map] at hjl
  simp only [Tryd.f45, Option.getD_some, nodeV, cNd_mk]
  rcases hk with rfl | rfl
  · generalize Lib.join (l.map (textN 4)) (if (4 : Int) = 5 then [124] else []) = t at *
    have hj : X 54 [.sl l.length (strK 4 l), .str []] = some (.str t) := hj
    simp (disch := omega) only [go_sem, ↓IntWalk.iteOmega, IntWalk.toNatUp, Nat.reduceEqDiff, Nat.reduceAdd, Nat.reduceMul, Nat.reduceSub, Nat.reduceLT, Nat.reduceLeDiff, Int.reduceToNat, Int.reduceLT, Int.reduceLE, Int.reduceEq, Int.reduceAdd, Int.reduceSub, Int.reduceMul, Int.toNat_natCast, reduceCtorEq, decide_true, decide_false, IntWalk.i64_in, IntWalk.u64_in, IntWalk.u8_in]
    refine text_loop 4 w l hl X hch (by omega) rfl rfl rfl rfl rfl rfl rfl (fun a o nx v hnx a1 a2 a6 hHS ho => ?_)
    have hok := hHS.ok
    have hv := hq _ _ _ hHS
    by_cases hw0 : w = 0
    · subst hw0
      simp (disch := omega) only [go_sem, ↓IntWalk.iteOmega, IntWalk.toNatUp, Nat.reduceEqDiff, Nat.reduceAdd, Nat.reduceMul, Nat.reduceSub, Nat.reduceLT, Nat.reduceLeDiff, Int.reduceToNat, Int.reduceLT, Int.reduceLE, Int.reduceEq, Int.reduceAdd, Int.reduceSub, Int.reduceMul, Int.toNat_natCast, reduceCtorEq, decide_true, decide_false, IntWalk.i64_in, IntWalk.u64_in, IntWalk.u8_in, a1, a2, a6, ho, hok, hv, hj]
      refine ⟨.inr rfl, ?_⟩
      simp only [Tryd.f45]
      simp (disch := omega) only [go_sem, ↓IntWalk.iteOmega, IntWalk.toNatUp, Nat.reduceEqDiff, Nat.reduceAdd, Nat.reduceMul, Nat.reduceSub, Nat.reduceLT, Nat.reduceLeDiff, Int.reduceToNat, Int.reduceLT, Int.reduceLE, Int.reduceEq, Int.reduceAdd, Int.reduceSub, Int.reduceMul, Int.toNat_natCast, reduceCtorEq, decide_true, decide_false, IntWalk.i64_in, IntWalk.u64_in, IntWalk.u8_in]
      rfl
    · by_cases hw5 : w = 5
      · subst hw5
        simp (disch := omega) only [go_sem, ↓IntWalk.iteOmega, IntWalk.toNatUp, Nat.reduceEqDiff, Nat.reduceAdd, Nat.reduceMul, Nat.reduceSub, Nat.reduceLT, Nat.reduceLeDiff, Int.reduceToNat, Int.reduceLT, Int.reduceLE, Int.reduceEq, Int.reduceAdd, Int.reduceSub, Int.reduceMul, Int.toNat_natCast, reduceCtorEq, decide_true, decide_false, IntWalk.i64_in, IntWalk.u64_in, IntWalk.u8_in, a1, a2, a6, ho, hok, hv, hj]
        refine ⟨.inr rfl, ?_⟩
        simp only [Tryd.f45]
        simp (disch := omega) only [go_sem, ↓IntWalk.iteOmega, IntWalk.toNatUp, Nat.reduceEqDiff, Nat.reduceAdd, Nat.reduceMul, Nat.reduceSub, Nat.reduceLT, Nat.reduceLeDiff, Int.reduceToNat, Int.reduceLT, Int.reduceLE, Int.reduceEq, Int.reduceAdd, Int.reduceSub, Int.reduceMul, Int.toNat_natCast, reduceCtorEq, decide_true, decide_false, IntWalk.i64_in, IntWalk.u64_in, IntWalk.u8_in]
        rfl
      · simp (disch := omega) only [go_sem, ↓IntWalk.iteOmega, IntWalk.toNatUp, Nat.reduceEqDiff, Nat.reduceAdd, Nat.reduceMul, Nat.reduceSub, Nat.reduceLT, Nat.reduceLeDiff, Int.reduceToNat, Int.reduceLT, Int.reduceLE, Int.reduceEq, Int.reduceAdd, Int.reduceSub, Int.reduceMul, Int.toNat_natCast, reduceCtorEq, decide_true, decide_false, IntWalk.i64_in, IntWalk.u64_in, IntWalk.u8_in, a1, a2, a6, ho, hok, hv, hj, hw0, hw5]
        refine ⟨.inr rfl, ?_⟩
        simp only [Tryd.f45]
        simp (disch := omega) only [go_sem, ↓IntWalk.iteOmega, IntWalk.toNatUp, Nat.reduceEqDiff, Nat.reduceAdd, Nat.reduceMul, Nat.reduceSub, Nat.reduceLT, Nat.reduceLeDiff, Int.reduceToNat, Int.reduceLT, Int.reduceLE, Int.reduceEq, Int.reduceAdd, Int.reduceSub, Int.reduceMul, Int.toNat_natCast, reduceCtorEq, decide_true, decide_false, IntWalk.i64_in, IntWalk.u64_in, IntWalk.u8_in]
        simp [brkS, hw0, hw5]
  · generalize Lib.join (l.map (textN 5)) (if (5 : Int) = 5 then [124] else []) = t at *
    have hj : X 54 [.sl l.length (strK 5 l), .str [124]] = some (.str t) := hj
    simp (disch := omega) only [go_sem, ↓IntWalk.iteOmega, IntWalk.toNatUp, Nat.reduceEqDiff, Nat.reduceAdd, Nat.reduceMul, Nat.reduceSub, Nat.reduceLT, Nat.reduceLeDiff, Int.reduceToNat, Int.reduceLT, Int.reduceLE, Int.reduceEq, Int.reduceAdd, Int.reduceSub, Int.reduceMul, Int.toNat_natCast, reduceCtorEq, decide_true, decide_false, IntWalk.i64_in, IntWalk.u64_in, IntWalk.u8_in]
    refine text_loop 5 w l hl X hch (by omega) rfl rfl rfl rfl rfl rfl rfl (fun a o nx v hnx a1 a2 a6 hHS ho => ?_)
    have hok := hHS.ok
    have hv := hq _ _ _ hHS
    by_cases hw0 : w = 0
    · subst hw0
      simp (disch := omega) only [go_sem, ↓IntWalk.iteOmega, IntWalk.toNatUp, Nat.reduceEqDiff, Nat.reduceAdd, Nat.reduceMul, Nat.reduceSub, Nat.reduceLT, Nat.reduceLeDiff, Int.reduceToNat, Int.reduceLT, Int.reduceLE, Int.reduceEq, Int.reduceAdd, Int.reduceSub, Int.reduceMul, Int.toNat_natCast, reduceCtorEq, decide_true, decide_false, IntWalk.i64_in, IntWalk.u64_in, IntWalk.u8_in, a1, a2, a6, ho, hok, hv, hj]
      refine ⟨.inr rfl, ?_⟩
      simp only [Tryd.f45]
      simp (disch := omega) only [go_sem, ↓IntWalk.iteOmega, IntWalk.toNatUp, Nat.reduceEqDiff, Nat.reduceAdd, Nat.reduceMul, Nat.reduceSub, Nat.reduceLT, Nat.reduceLeDiff, Int.reduceToNat, Int.reduceLT, Int.reduceLE, Int.reduceEq, Int.reduceAdd, Int.reduceSub, Int.reduceMul, Int.toNat_natCast, reduceCtorEq, decide_true, decide_false, IntWalk.i64_in, IntWalk.u64_in, IntWalk.u8_in]
      rfl
    · simp (disch := omega) only [go_sem, ↓IntWalk.iteOmega, IntWalk.toNatUp, Nat.reduceEqDiff, Nat.reduceAdd, Nat.reduceMul, Nat.reduceSub, Nat.reduceLT, Nat.reduceLeDiff, Int.reduceToNat, Int.reduceLT, Int.reduceLE, Int.reduceEq, Int.reduceAdd, Int.reduceSub, Int.reduceMul, Int.toNat_natCast, reduceCtorEq, decide_true, decide_false, IntWalk.i64_in, IntWalk.u64_in, IntWalk.u8_in, a1, a2, a6, ho, hok, hv, hj, hw0]
      refine ⟨.inr rfl, ?_⟩
      simp only [Tryd.f45]
      simp (disch := omega) only [go_sem, ↓IntWalk.iteOmega, IntWalk.toNatUp, Nat.reduceEqDiff, Nat.reduceAdd, Nat.reduceMul, Nat.reduceSub, Nat.reduceLT, Nat.reduceLeDiff, Int.reduceToNat, Int.reduceLT, Int.reduceLE, Int.reduceEq, Int.reduceAdd, Int.reduceSub, Int.reduceMul, Int.toNat_natCast, reduceCtorEq, decide_true, decide_false, IntWalk.i64_in, IntWalk.u64_in, IntWalk.u8_in]
      simp [brkS, hw0]
/-! ### the contract -/
def RTx (k : Int) (l : List Nd) (args : List AV) (r : AV) : Prop := ∃ i, i < l.length ∧ args = [nodeV (l.getD i default), .int .i64 k] ∧ r = .str (textN k (l.getD i default))
theorem RTx_fn (k l) : Fun1 (RTx k l) := by
  rintro args r r' ⟨i, _, rfl, rfl⟩ ⟨j, _, h, rfl⟩
  simp only [List.cons.injEq, AV.agg.injEq, and_true] at h
  rw [cNd_inj h]
noncomputable def XTx (k : Int) (l : List Nd) : FuncId → List AV → Option AV := tabLook [(45, tRel (RTx k l)), (53, (calls E4 1000).1 53), (54, tRel RJn), (55, tRel RItoa)]
theorem XTx_ok (k : Int) (l : List Nd) (h : ∀ i, i < l.length → Ok Tryd.prog 45 [nodeV (l.getD i default), .int .i64 k] (.str (textN k (l.getD i default)))) : CPSound Tryd.prog (XTx k l) :=
  tab_cons (tab_cons (tab_cons (tab_cons (tab_nil _) (tRel_ok RItoa_ok)) (tRel_ok RJn_ok)) (fun args r h => ok_calls (E := E4) ext4_ok mixed h)) (tRel_ok (fun args r h' => by obtain ⟨i, hi, rfl, rfl⟩ := h'; exact h i hi))
theorem XTx_set (k l) (s : Nat) (h0 : 1 ≤ s) (h1 : s ≤ 31) : XTx k l 53 [.int .i64 s] = some (.str (setS s)) := rset_at h0 h1
theorem XTx_join (k l) (xs : List (List UInt8)) (sep : List UInt8) (h1 : xs ≠ []) (h2 : xs.length ≤ 1000000) (h3 : (Lib.join xs sep).length ≤ 100000000) : XTx k l 54 [.sl xs.length (xs.map .str), .str sep] = some (.str (Lib.join xs sep)) := tRel_eq RJn_fn ⟨xs, sep, h1, h2, h3, rfl, rfl⟩
theorem XTx_itoa (k l) (d : Int) (h0 : 0 ≤ d) (h1 : d ≤ 9) : XTx k l 55 [.int .i64 d] = some (.str [dig d.toNat]) := by
  rw [← itoa_at h0 h1]
  exact tRel_eq RItoa_fn ⟨d, by omega, by omega, rfl, rfl⟩
theorem XTx_text (k l) (i : Nat) (h : i < l.length) : XTx k l 45 [nodeV (l.getD i default), .int .i64 k] = some (.str (textN k (l.getD i default))) := tRel_eq (RTx_fn k l) ⟨i, h, rfl, rfl⟩
theorem text_ok : ∀ (n : Nd) (w : Int), rightN n = true → wideN n = true → (textN w n).length ≤ 100000000 → Ok Tryd.prog 45 [nodeV n, .int .i64 w] (.str (textN w n))
  | .mk k s lo hi l, w, hr, hw, hlen => by
    obtain ⟨hx, hc⟩ := right_cases hr
    rw [wideN, Bool.and_eq_true, decide_eq_true_eq] at hw
    have hok := XTx_ok k l (fun i hil => by
      have hm : l.getD i default ∈ l := by
        rw [List.getD_eq_getElem?_getD, List.getElem?_eq_getElem hil]
        exact List.getElem_mem hil
      have := size_at_lt hil k s lo hi
      exact text_ok (l.getD i default) k (hx _ hm) (wide_at hw.2 hil) (Nat.le_trans (text_kid hr hm) hlen))
    refine ok_of_WP (E := EX md0 (XTx k l)) (cr := noR) hok (noR_ok _) mixed (k := 1002) Tryd.func45 (lookText _) rfl ?_
    rcases hc with ⟨rfl, rfl, rfl, rfl, h0, h1⟩ | ⟨hk, rfl, rfl, rfl, rfl⟩ | ⟨hk, rfl, rfl, rfl, y1, y2, r, rfl⟩ | ⟨hk, rfl, rfl, rfl, x, rfl⟩ | ⟨rfl, rfl, h0, h1, h2, x, rfl⟩
    · exact text_leaf 1 s w (.inl ⟨rfl, h0, h1⟩) _ (XTx_set _ _)
    · exact text_leaf k 0 w (by omega) _ (XTx_set _ _)
    · exact text_many k w _ hk (by simp) hw.1 hlen _ (XTx_text _ _) (XTx_join _ _)
    · exact text_post k 0 0 x w (.inl ⟨hk, rfl, rfl⟩) hlen _ (XTx_text k [x] 0 (by simp)) (XTx_itoa _ _)
    · exact text_post 9 lo hi x w (.inr ⟨rfl, h0, h1, h2⟩) hlen _ (XTx_text 9 [x] 0 (by simp)) (XTx_itoa _ _)
termination_by n => SizeOf.sizeOf n
decreasing_by
  exact this
theorem lookTextT (X) : lookedAt (EX md0 X) (fun _ => none) 1 Tryd.f25 = true := by kernel_rfl
def RText (args : List AV) (r : AV) : Prop := ∃ n, rightN n = true ∧ wideN n = true ∧ (textN 0 n).length ≤ 100000000 ∧ args = [nodeV n] ∧ r = .str (textN 0 n)
theorem RText_fn : Fun1 RText := by
  rintro args r r' ⟨n, _, _, _, rfl, rfl⟩ ⟨n', _, _, _, h, rfl⟩
  simp only [List.cons.injEq, AV.agg.injEq, and_true] at h
  rw [cNd_inj h]
def RTxw (n : Nd) (args : List AV) (r : AV) : Prop := args = [nodeV n, .int .i64 0] ∧ r = .str (textN 0 n)
theorem RTxw_fn (n) : Fun1 (RTxw n) := by
  rintro args r r' ⟨_, rfl⟩ ⟨_, rfl⟩
  rfl
theorem RText_ok (args r) (h : RText args r) : Ok Tryd.prog 25 args r := by
  obtain ⟨n, h1, h2, h3, rfl, rfl⟩ := h
  refine ok_of_WP (E := EX md0 (tabLook [(45, tRel (RTxw n))])) (cr := noR) (tab_cons (tab_nil _) (tRel_ok (fun args r h' => by obtain ⟨rfl, rfl⟩ := h'; exact text_ok n 0 h1 h2 h3))) (noR_ok _) mixed (k := 1002) Tryd.func25 (lookTextT _) rfl ?_
  have hX : tabLook [(45, tRel (RTxw n))] 45 [nodeV n, .int .i64 0] = some (.str (textN 0 n)) := tRel_eq (RTxw_fn n) ⟨rfl, rfl⟩
  obtain ⟨k, s, lo, hi, l⟩ := n
  simp only [nodeV, cNd_mk] at hX
  simp only [Tryd.f25, Option.getD_some, nodeV, cNd_mk]
  simp (disch := omega) only [go_sem, ↓IntWalk.iteOmega, IntWalk.toNatUp, Nat.reduceEqDiff, Nat.reduceAdd, Nat.reduceMul, Nat.reduceSub, Nat.reduceLT, Nat.reduceLeDiff, Int.reduceToNat, Int.reduceLT, Int.reduceLE, Int.reduceEq, Int.reduceAdd, Int.reduceSub, Int.reduceMul, Int.toNat_natCast, reduceCtorEq, decide_true, decide_false, IntWalk.i64_in, IntWalk.u64_in, IntWalk.u8_in, hX]
end Go.Proofs.YtmcbfbpdfbcakaaDoor.A
/- The document's Text: its contract. -/
namespace Go.Proofs.YtmcbfbpdfbcakaaDoor.A
open Go
set_option maxRecDepth 20000
theorem dset_all : ((List.range 31).map fun q => (calls E4 1000).1 29 [.int .i64 ((q + 1 : Nat) : Int)]) = (List.range 31).map fun q => some (.str (setS (q + 1))) := by kernel_rfl
theorem dset_at {s : Nat} (h0 : 1 ≤ s) (h1 : s ≤ 31) : (calls E4 1000).1 29 [.int .i64 (s : Int)] = some (.str (setS s)) := by
  have := map_at dset_all (q := s - 1) (by omega)
  rwa [show s - 1 + 1 = s by omega] at this
theorem join_snoc (t : List UInt8) (sep : List UInt8) : ∀ l : List (List UInt8), Lib.join (l ++ [t]) sep = if l = [] then t else Lib.join l sep ++ sep ++ t
  | [] => by rw [List.nil_append, join_one, if_pos rfl]
  | [u] => by rw [if_neg (by simp), List.singleton_append, join_cons2, join_one, join_one]; simp
  | u :: v :: l => by
    have ih := join_snoc t sep (v :: l)
    rw [if_neg (by simp)] at ih ⊢
    have e : u :: v :: l ++ [t] = u :: v :: (l ++ [t]) := rfl
    rw [e, join_cons2, ← List.cons_append, ih, join_cons2]
    simp
/-- A part's text is the whole one, in brackets where it must be. -/
theorem text_brk {k : Int} (hk : k ≠ 0) (x : Nd) : textN k x = brkS (decide (kindN x = 5 ∨ (kindN x = 4 ∧ k ≠ 5))) (textN 0 x) := by
  obtain ⟨q, s, lo, hi, l⟩ := x
  have hq : kindN (.mk q s lo hi l) = q := rfl
  rw [hq, textN, textN]
  by_cases h1 : q = 1
  · subst h1; rw [if_pos rfl, if_pos rfl, decide_eq_false (by omega)]; rfl
  by_cases h2 : q = 2
  · subst h2; rw [if_neg h1, if_neg h1, if_pos rfl, if_pos rfl, decide_eq_false (by omega)]; rfl
  by_cases h3 : q = 3
  · subst h3; rw [if_neg h1, if_neg h1, if_neg h2, if_neg h2, if_pos rfl, if_pos rfl, decide_eq_false (by omega)]; rfl
  rw [if_neg h1, if_neg h1, if_neg h2, if_neg h2, if_neg h3, if_neg h3]
  by_cases h4 : q = 4 ∨ q = 5
  · rw [if_pos h4, if_pos h4]
    have e0 : decide ((0 : Int) ≠ 0 ∧ (q = 5 ∨ (0 : Int) ≠ 5)) = false := rfl
    rw [e0]
    have e1 : decide (k ≠ 0 ∧ (q = 5 ∨ k ≠ 5)) = decide (q = 5 ∨ (q = 4 ∧ k ≠ 5)) := by rw [Bool.eq_iff_iff]; simp only [decide_eq_true_eq]; omega
    rw [e1]
    rfl
  · rw [if_neg h4, if_neg h4, decide_eq_false (by omega)]
    rfl
theorem lookBr (X) : lookedAt (EX md0 X) (fun _ => none) 2 Tryd.f30 = true := by kernel_rfl
def RTx0 (x : Nd) (args : List AV) (r : AV) : Prop := args = [nodeV x] ∧ r = .str (textN 0 x)
theorem RTx0_fn (x) : Fun1 (RTx0 x) := by
  rintro args r r' ⟨_, rfl⟩ ⟨_, rfl⟩
  rfl
theorem bracketed_ok (k : Int) (x : Nd) (hk : k ≠ 0) (hl : (textN 0 x).length ≤ 100000000) (h : Ok Tryd.prog 15 [nodeV x] (.str (textN 0 x))) : Ok Tryd.prog 30 [.int .i64 k, nodeV x] (.str (textN k x)) := by
  refine ok_of_WP (E := EX md0 (tabLook [(15, tRel (RTx0 x))])) (cr := noR) (tab_cons (tab_nil _) (tRel_ok (fun args r h' => by obtain ⟨rfl, rfl⟩ := h'; exact h))) (noR_ok _) mixed (k := 10) Tryd.func30 (lookBr _) rfl ?_
  have hX : tabLook [(15, tRel (RTx0 x))] 15 [nodeV x] = some (.str (textN 0 x)) := tRel_eq (RTx0_fn x) ⟨rfl, rfl⟩
  rw [text_brk hk]
  generalize textN 0 x = t at *
  obtain ⟨q, s, lo, hi, l⟩ := x
  have hq : kindN (.mk q s lo hi l) = q := rfl
  rw [hq]
  simp only [nodeV, cNd_mk] at hX
  simp only [Tryd.f30, Option.getD_some, nodeV, cNd_mk]
  by_cases h5 : q = 5
  · subst h5
    rw [decide_eq_true (.inl rfl)]
    simp (disch := omega) only [go_sem, ↓IntWalk.iteOmega, IntWalk.toNatUp, Nat.reduceEqDiff, Nat.reduceAdd, Nat.reduceMul, Nat.reduceSub, Nat.reduceLT, Nat.reduceLeDiff, Int.reduceToNat, Int.reduceLT, Int.reduceLE, Int.reduceEq, Int.reduceAdd, Int.reduceSub, Int.reduceMul, Int.toNat_natCast, reduceCtorEq, decide_true, decide_false, IntWalk.i64_in, IntWalk.u64_in, IntWalk.u8_in, hX]
    simp [brkS]
  · by_cases h4 : q = 4
    · subst h4
      by_cases hk5 : k = 5
      · subst hk5
        rw [decide_eq_false (by omega)]
        simp (disch := omega) only [go_sem, ↓IntWalk.iteOmega, IntWalk.toNatUp, Nat.reduceEqDiff, Nat.reduceAdd, Nat.reduceMul, Nat.reduceSub, Nat.reduceLT, Nat.reduceLeDiff, Int.reduceToNat, Int.reduceLT, Int.reduceLE, Int.reduceEq, Int.reduceAdd, Int.reduceSub, Int.reduceMul, Int.toNat_natCast, reduceCtorEq, decide_true, decide_false, IntWalk.i64_in, IntWalk.u64_in, IntWalk.u8_in, hX]
        rfl
      · rw [decide_eq_true (by omega)]
        simp (disch := omega) only [go_sem, ↓IntWalk.iteOmega, IntWalk.toNatUp, Nat.reduceEqDiff, Nat.reduceAdd, Nat.reduceMul, Nat.reduceSub, Nat.reduceLT, Nat.reduceLeDiff, Int.reduceToNat, Int.reduceLT, Int.reduceLE, Int.reduceEq, Int.reduceAdd, Int.reduceSub, Int.reduceMul, Int.toNat_natCast, reduceCtorEq, decide_true, decide_false, IntWalk.i64_in, IntWalk.u64_in, IntWalk.u8_in, hX, hk5]
        simp [brkS]
    · rw [decide_eq_false (by omega)]
      simp (disch := omega) only [go_sem, ↓IntWalk.iteOmega, IntWalk.toNatUp, Nat.reduceEqDiff, Nat.reduceAdd, Nat.reduceMul, Nat.reduceSub, Nat.reduceLT, Nat.reduceLeDiff, Int.reduceToNat, Int.reduceLT, Int.reduceLE, Int.reduceEq, Int.reduceAdd, Int.reduceSub, Int.reduceMul, Int.toNat_natCast, reduceCtorEq, decide_true, decide_false, IntWalk.i64_in, IntWalk.u64_in, IntWalk.u8_in, hX, h5, h4]
      rfl
theorem lookDText (X) : lookedAt (EX md0 X) (fun _ => none) 1 Tryd.f15 = true := by kernel_rfl
def finDT (t : List UInt8) : WPost := fun u a o nx => (u = .normal ∨ u = .ret) ∧ wO (resultsL Tryd.prog a ⟨o, nx⟩ Tryd.f15.results.toList) (fun vs => view o vDepth (tup1 vs) = .str t)
theorem dtext_leaf (k s : Int) (h : (k = 1 ∧ 1 ≤ s ∧ s ≤ 31) ∨ (k = 2 ∧ s = 0) ∨ (k = 3 ∧ s = 0)) (X : FuncId → List AV → Option AV) (hset : ∀ s : Nat, 1 ≤ s → s ≤ 31 → X 29 [.int .i64 s] = some (.str (setS s))) :
    WP (EX md0 X) noR 1002 (fun _ => none) (Tryd.f15.body.getD .skip) (begin_ [nodeV (.mk k s 0 0 [])]) (fun _ => none) 0 (finDT (textN 0 (.mk k s 0 0 []))) := by
  simp only [Tryd.f15, Option.getD_some, nodeV, cNd_mk]
  rcases h with ⟨rfl, h0, h1⟩ | ⟨rfl, rfl⟩ | ⟨rfl, rfl⟩
  · have h2 := hset s.toNat (by omega) (by omega)
    rw [Int.toNat_of_nonneg (by omega)] at h2
    simp (disch := omega) only [go_sem, ↓IntWalk.iteOmega, IntWalk.toNatUp, Nat.reduceEqDiff, Nat.reduceAdd, Nat.reduceMul, Nat.reduceSub, Nat.reduceLT, Nat.reduceLeDiff, Int.reduceToNat, Int.reduceLT, Int.reduceLE, Int.reduceEq, Int.reduceAdd, Int.reduceSub, Int.reduceMul, Int.toNat_natCast, reduceCtorEq, decide_true, decide_false, IntWalk.i64_in, IntWalk.u64_in, IntWalk.u8_in, h2]
    refine ⟨.inr rfl, ?_⟩
    simp only [Tryd.f15]
    simp (disch := omega) only [go_sem, ↓IntWalk.iteOmega, IntWalk.toNatUp, Nat.reduceEqDiff, Nat.reduceAdd, Nat.reduceMul, Nat.reduceSub, Nat.reduceLT, Nat.reduceLeDiff, Int.reduceToNat, Int.reduceLT, Int.reduceLE, Int.reduceEq, Int.reduceAdd, Int.reduceSub, Int.reduceMul, Int.toNat_natCast, reduceCtorEq, decide_true, decide_false, IntWalk.i64_in, IntWalk.u64_in, IntWalk.u8_in]
    rw [textN, if_pos rfl]
  · simp (disch := omega) only [go_sem, ↓IntWalk.iteOmega, IntWalk.toNatUp, Nat.reduceEqDiff, Nat.reduceAdd, Nat.reduceMul, Nat.reduceSub, Nat.reduceLT, Nat.reduceLeDiff, Int.reduceToNat, Int.reduceLT, Int.reduceLE, Int.reduceEq, Int.reduceAdd, Int.reduceSub, Int.reduceMul, Int.toNat_natCast, reduceCtorEq, decide_true, decide_false, IntWalk.i64_in, IntWalk.u64_in, IntWalk.u8_in]
    refine ⟨.inr rfl, ?_⟩
    simp only [Tryd.f15]
    simp (disch := omega) only [go_sem, ↓IntWalk.iteOmega, IntWalk.toNatUp, Nat.reduceEqDiff, Nat.reduceAdd, Nat.reduceMul, Nat.reduceSub, Nat.reduceLT, Nat.reduceLeDiff, Int.reduceToNat, Int.reduceLT, Int.reduceLE, Int.reduceEq, Int.reduceAdd, Int.reduceSub, Int.reduceMul, Int.toNat_natCast, reduceCtorEq, decide_true, decide_false, IntWalk.i64_in, IntWalk.u64_in, IntWalk.u8_in]
    rw [textN, if_neg (by decide), if_pos rfl]
  · simp (disch := omega) only [go_sem, ↓IntWalk.iteOmega, IntWalk.toNatUp, Nat.reduceEqDiff, Nat.reduceAdd, Nat.reduceMul, Nat.reduceSub, Nat.reduceLT, Nat.reduceLeDiff, Int.reduceToNat, Int.reduceLT, Int.reduceLE, Int.reduceEq, Int.reduceAdd, Int.reduceSub, Int.reduceMul, Int.toNat_natCast, reduceCtorEq, decide_true, decide_false, IntWalk.i64_in, IntWalk.u64_in, IntWalk.u8_in]
    refine ⟨.inr rfl, ?_⟩
    simp only [Tryd.f15]
    simp (disch := omega) only [go_sem, ↓IntWalk.iteOmega, IntWalk.toNatUp, Nat.reduceEqDiff, Nat.reduceAdd, Nat.reduceMul, Nat.reduceSub, Nat.reduceLT, Nat.reduceLeDiff, Int.reduceToNat, Int.reduceLT, Int.reduceLE, Int.reduceEq, Int.reduceAdd, Int.reduceSub, Int.reduceMul, Int.toNat_natCast, reduceCtorEq, decide_true, decide_false, IntWalk.i64_in, IntWalk.u64_in, IntWalk.u8_in]
    rw [textN, if_neg (by decide), if_neg (by decide), if_pos rfl]
def sepN (k : Int) : List UInt8 := if k = 5 then [124] else []
theorem join_take_le (l : List (List UInt8)) (sep : List UInt8) (i : Nat) : (Lib.join (l.take i) sep).length ≤ (Lib.join l sep).length := by
  rcases Nat.lt_or_ge i l.length with h | h
  · have : ∀ (a b : List (List UInt8)), (Lib.join a sep).length ≤ (Lib.join (a ++ b) sep).length := by
      intro a b
      induction a with
      | nil => simp [Lib.join, List.intercalate]
      | cons x a ih =>
        cases a with
        | nil =>
          cases b with
          | nil => exact Nat.le_refl _
          | cons y b => rw [List.singleton_append, join_cons2, join_one, List.length_append]; omega
        | cons y a =>
          have e : x :: y :: a ++ b = x :: y :: (a ++ b) := rfl
          rw [e, join_cons2, join_cons2, List.length_append, List.length_append, List.length_append, List.length_append]
          rw [List.cons_append] at ih
          omega
    have h2 := this (l.take i) (l.drop i)
    rwa [List.take_append_drop] at h2
  · rw [List.take_of_length_le h]; omega
theorem dtext_loop (k lo hi : Int) (l : List Nd) (hk : 4 ≤ k) (hl : l.length ≤ 1000) (hlen : (Lib.join (textNs k l) (sepN k)).length ≤ 100000000) (X : FuncId → List AV → Option AV) (hch : ∀ i, i < l.length → X 30 [.int .i64 k, nodeV (l.getD i default)] = some (.str (textN k (l.getD i default)))) {Q : WPost} {a : AAct} {o : Ob} {nx : Nat} (hnx : 1 ≤ nx)
    (a1 : a 1 = .ptr (0, 1) (0, 1) 0) (a3 : a 3 = .str []) (a4 : a 4 = .int .i64 0) (ho : o (0, 1) = some (.row ⟨29, 1, (0, 1), false, true, [.int .i64 k, .int .i64 0, .int .i64 lo, .int .i64 hi, slN l]⟩))
    (hQ : ∀ a o nx, 1 ≤ nx → a 1 = .ptr (0, 1) (0, 1) 0 → a 3 = .str (Lib.join (textNs k l) (sepN k)) → o (0, 1) = some (.row ⟨29, 1, (0, 1), false, true, [.int .i64 k, .int .i64 0, .int .i64 lo, .int .i64 hi, slN l]⟩) → Q .normal a o nx) :
    WP (EX md0 X) noR 1002 (fun _ => none) (pathC [1, 1, 1, 0, 1, 0] (Tryd.f15.body.getD .skip)) a o nx (blockQ 1 Q) := by
  simp only [Tryd.f15, Option.getD_some, pathC]
  rw [textNs_map] at hlen hQ
  refine WP_loop (fun m a o nx => ∃ i : Nat, i ≤ l.length ∧ m = l.length - i ∧ 1 ≤ nx ∧ a 1 = .ptr (0, 1) (0, 1) 0 ∧ a 3 = .str (Lib.join ((l.take i).map (textN k)) (sepN k)) ∧ a 4 = .int .i64 i ∧ o (0, 1) = some (.row ⟨29, 1, (0, 1), false, true, [.int .i64 k, .int .i64 0, .int .i64 lo, .int .i64 hi, slN l]⟩)) l.length (by omega) ⟨0, by omega, by omega, by omega, a1, a3, a4, ho⟩ ?_
  clear a1 a3 a4 ho hnx
  rintro m a o nx ⟨i, hi, rfl, hnx, a1, a3, a4, ho⟩
  by_cases hlt : i < l.length
  · have hat := cNds_at hlt
    have hci := hch i hlt
    have htk := take_succ_getD hlt default
    have hle := join_take_le (l.map (textN k)) (sepN k) (i + 1)
    rw [← List.map_take, htk, List.map_append] at hle
    have hsn := join_snoc (textN k (l.getD i default)) (sepN k) ((l.take i).map (textN k))
    have hnil : (l.take i).map (textN k) = [] ↔ i = 0 := by
      constructor
      · intro e
        have := congrArg List.length e
        rw [List.length_map, List.length_take] at this
        simp at this
        rcases this with h | h
        · exact h
        · rw [h] at hlt; simp at hlt
      · rintro rfl; rfl
    have hle' : (Lib.join ((l.take i).map (textN k) ++ [textN k (l.getD i default)]) (sepN k)).length ≤ 100000000 := Nat.le_trans hle hlen
    simp only [nodeV] at hci
    have hres : (l.take (i + 1)).map (textN k) = (l.take i).map (textN k) ++ [textN k (l.getD i default)] := by rw [htk, List.map_append]; rfl
    clear htk hle
    generalize l.getD i default = x at *
    by_cases h0 : i = 0
    · rw [if_pos (hnil.2 h0)] at hsn
      rw [hsn] at hle'
      rw [hnil.2 h0] at a3
      have e0 : Lib.join [] (sepN k) = [] := rfl
      rw [e0] at a3
      simp (disch := omega) only [go_sem, ↓IntWalk.iteOmega, IntWalk.toNatUp, Nat.reduceEqDiff, Nat.reduceAdd, Nat.reduceMul, Nat.reduceSub, Nat.reduceLT, Nat.reduceLeDiff, Int.reduceToNat, Int.reduceLT, Int.reduceLE, Int.reduceEq, Int.reduceAdd, Int.reduceSub, Int.reduceMul, Int.toNat_natCast, reduceCtorEq, decide_true, decide_false, IntWalk.i64_in, IntWalk.u64_in, IntWalk.u8_in, a1, a3, a4, ho, hat, hci]
      exact ⟨_, by omega, i + 1, by omega, rfl, by rw [hres, hsn], rfl⟩
    · rw [if_neg (fun e => h0 (hnil.1 e))] at hsn
      rw [hsn, List.length_append, List.length_append] at hle'
      by_cases h5 : k = 5
      · subst h5
        have hs5 : sepN 5 = [124] := rfl
        rw [hs5] at hsn hle' a3
        simp only [List.length_singleton] at hle'
        simp (disch := omega) only [go_sem, ↓IntWalk.iteOmega, IntWalk.toNatUp, Nat.reduceEqDiff, Nat.reduceAdd, Nat.reduceMul, Nat.reduceSub, Nat.reduceLT, Nat.reduceLeDiff, Int.reduceToNat, Int.reduceLT, Int.reduceLE, Int.reduceEq, Int.reduceAdd, Int.reduceSub, Int.reduceMul, Int.toNat_natCast, reduceCtorEq, decide_true, decide_false, IntWalk.i64_in, IntWalk.u64_in, IntWalk.u8_in, a1, a3, a4, ho, hat, hci]
        exact ⟨_, by omega, i + 1, by omega, rfl, by rw [hres, hs5, hsn], rfl⟩
      · have hs5 : sepN k = [] := if_neg h5
        rw [hs5] at hsn hle' a3
        simp (disch := omega) only [go_sem, ↓IntWalk.iteOmega, IntWalk.toNatUp, Nat.reduceEqDiff, Nat.reduceAdd, Nat.reduceMul, Nat.reduceSub, Nat.reduceLT, Nat.reduceLeDiff, Int.reduceToNat, Int.reduceLT, Int.reduceLE, Int.reduceEq, Int.reduceAdd, Int.reduceSub, Int.reduceMul, Int.toNat_natCast, reduceCtorEq, decide_true, decide_false, IntWalk.i64_in, IntWalk.u64_in, IntWalk.u8_in, a1, a3, a4, ho, hat, hci, h5]
        exact ⟨_, by omega, i + 1, by omega, rfl, by rw [hres, hs5, hsn, List.append_nil], rfl⟩
  · have hie : i = l.length := by omega
    rw [hie, List.take_length] at a3
    simp (disch := omega) only [go_sem, ↓IntWalk.iteOmega, IntWalk.toNatUp, Nat.reduceEqDiff, Nat.reduceAdd, Nat.reduceMul, Nat.reduceSub, Nat.reduceLT, Nat.reduceLeDiff, Int.reduceToNat, Int.reduceLT, Int.reduceLE, Int.reduceEq, Int.reduceAdd, Int.reduceSub, Int.reduceMul, Int.toNat_natCast, reduceCtorEq, decide_true, decide_false, IntWalk.i64_in, IntWalk.u64_in, IntWalk.u8_in, a1, a3, a4, ho]
    exact hQ _ _ _ (by omega) (by simp (disch := omega) only [go_sem, ↓IntWalk.iteOmega, IntWalk.toNatUp, Nat.reduceEqDiff, Nat.reduceAdd, Nat.reduceMul, Nat.reduceSub, Nat.reduceLT, Nat.reduceLeDiff, Int.reduceToNat, Int.reduceLT, Int.reduceLE, Int.reduceEq, Int.reduceAdd, Int.reduceSub, Int.reduceMul, Int.toNat_natCast, reduceCtorEq, decide_true, decide_false, IntWalk.i64_in, IntWalk.u64_in, IntWalk.u8_in, a1]) (by simp (disch := omega) only [go_sem, ↓IntWalk.iteOmega, IntWalk.toNatUp, Nat.reduceEqDiff, Nat.reduceAdd, Nat.reduceMul, Nat.reduceSub, Nat.reduceLT, Nat.reduceLeDiff, Int.reduceToNat, Int.reduceLT, Int.reduceLE, Int.reduceEq, Int.reduceAdd, Int.reduceSub, Int.reduceMul, Int.toNat_natCast, reduceCtorEq, decide_true, decide_false, IntWalk.i64_in, IntWalk.u64_in, IntWalk.u8_in, a3]) ho
theorem dtext_many (k : Int) (l : List Nd) (hk : k = 4 ∨ k = 5) (hl : l.length ≤ 1000) (hlen : (textN 0 (.mk k 0 0 0 l)).length ≤ 100000000) (X : FuncId → List AV → Option AV) (hch : ∀ i, i < l.length → X 30 [.int .i64 k, nodeV (l.getD i default)] = some (.str (textN k (l.getD i default)))) :
    WP (EX md0 X) noR 1002 (fun _ => none) (Tryd.f15.body.getD .skip) (begin_ [nodeV (.mk k 0 0 0 l)]) (fun _ => none) 0 (finDT (textN 0 (.mk k 0 0 0 l))) := by
  have ht : textN 0 (.mk k 0 0 0 l) = Lib.join (textNs k l) (sepN k) := by
    rw [textN, if_neg (by omega), if_neg (by omega), if_neg (by omega), if_pos hk]
    rfl
  rw [ht] at hlen ⊢
  simp only [Tryd.f15, Option.getD_some, nodeV, cNd_mk]
  rcases hk with rfl | rfl
  · simp (disch := omega) only [go_sem, ↓IntWalk.iteOmega, IntWalk.toNatUp, Nat.reduceEqDiff, Nat.reduceAdd, Nat.reduceMul, Nat.reduceSub, Nat.reduceLT, Nat.reduceLeDiff, Int.reduceToNat, Int.reduceLT, Int.reduceLE, Int.reduceEq, Int.reduceAdd, Int.reduceSub, Int.reduceMul, Int.toNat_natCast, reduceCtorEq, decide_true, decide_false, IntWalk.i64_in, IntWalk.u64_in, IntWalk.u8_in]
    refine dtext_loop 4 0 0 l (by omega) hl hlen X hch (by omega) rfl rfl rfl rfl (fun a o nx hnx a1 a3 ho => ?_)
    simp (disch := omega) only [go_sem, ↓IntWalk.iteOmega, IntWalk.toNatUp, Nat.reduceEqDiff, Nat.reduceAdd, Nat.reduceMul, Nat.reduceSub, Nat.reduceLT, Nat.reduceLeDiff, Int.reduceToNat, Int.reduceLT, Int.reduceLE, Int.reduceEq, Int.reduceAdd, Int.reduceSub, Int.reduceMul, Int.toNat_natCast, reduceCtorEq, decide_true, decide_false, IntWalk.i64_in, IntWalk.u64_in, IntWalk.u8_in, a1, a3, ho]
    refine ⟨.inr rfl, ?_⟩
    simp only [Tryd.f15]
    simp (disch := omega) only [go_sem, ↓IntWalk.iteOmega, IntWalk.toNatUp, Nat.reduceEqDiff, Nat.reduceAdd, Nat.reduceMul, Nat.reduceSub, Nat.reduceLT, Nat.reduceLeDiff, Int.reduceToNat, Int.reduceLT, Int.reduceLE, Int.reduceEq, Int.reduceAdd, Int.reduceSub, Int.reduceMul, Int.toNat_natCast, reduceCtorEq, decide_true, decide_false, IntWalk.i64_in, IntWalk.u64_in, IntWalk.u8_in]
  · simp (disch := omega) only [go_sem, ↓IntWalk.iteOmega, IntWalk.toNatUp, Nat.reduceEqDiff, Nat.reduceAdd, Nat.reduceMul, Nat.reduceSub, Nat.reduceLT, Nat.reduceLeDiff, Int.reduceToNat, Int.reduceLT, Int.reduceLE, Int.reduceEq, Int.reduceAdd, Int.reduceSub, Int.reduceMul, Int.toNat_natCast, reduceCtorEq, decide_true, decide_false, IntWalk.i64_in, IntWalk.u64_in, IntWalk.u8_in]
    refine dtext_loop 5 0 0 l (by omega) hl hlen X hch (by omega) rfl rfl rfl rfl (fun a o nx hnx a1 a3 ho => ?_)
    simp (disch := omega) only [go_sem, ↓IntWalk.iteOmega, IntWalk.toNatUp, Nat.reduceEqDiff, Nat.reduceAdd, Nat.reduceMul, Nat.reduceSub, Nat.reduceLT, Nat.reduceLeDiff, Int.reduceToNat, Int.reduceLT, Int.reduceLE, Int.reduceEq, Int.reduceAdd, Int.reduceSub, Int.reduceMul, Int.toNat_natCast, reduceCtorEq, decide_true, decide_false, IntWalk.i64_in, IntWalk.u64_in, IntWalk.u8_in, a1, a3, ho]
    refine ⟨.inr rfl, ?_⟩
    simp only [Tryd.f15]
    simp (disch := omega) only [go_sem, ↓IntWalk.iteOmega, IntWalk.toNatUp, Nat.reduceEqDiff, Nat.reduceAdd, Nat.reduceMul, Nat.reduceSub, Nat.reduceLT, Nat.reduceLeDiff, Int.reduceToNat, Int.reduceLT, Int.reduceLE, Int.reduceEq, Int.reduceAdd, Int.reduceSub, Int.reduceMul, Int.toNat_natCast, reduceCtorEq, decide_true, decide_false, IntWalk.i64_in, IntWalk.u64_in, IntWalk.u8_in]
theorem aBytes_map (bs : List UInt8) : aBytes (bs.map fun b => .int .u8 b.toNat) = some bs := by
  induction bs with
  | nil => rfl
  | cons b bs ih =>
    rw [List.map_cons, aBytes, ih]
    simp [b.toNat_lt]
theorem cv_bytes {tg k g : Tag} {o : Ob} {nx n : Nat} {ro pl : Bool} {cs : List AV} (bs : List UInt8) (ho : o k = some (.row ⟨5, 1, g, ro, pl, cs⟩)) (hc : cs = bs.map fun b => .int .u8 b.toNat) (hn : n = bs.length) : aConvert Tryd.prog tg 31 9 (.ref k g 0 n) ⟨o, nx⟩ = some (.str bs, ⟨o, nx⟩) := by
  refine convert_bytes (e := 5) (n := n) (cs := cs) (by kernel_rfl) (by kernel_rfl) (by kernel_rfl) ?_ (by rw [hc, hn, List.length_map]) (by rw [hc]; exact aBytes_map bs)
  have hl : cs.length = n := by rw [hc, hn, List.length_map]
  simp only [sliceCells, aRow, ho, if_true, Option.some.injEq, Prod.mk.injEq, true_and, List.drop_zero, Nat.mul_one]
  exact take_len hl
theorem dig_conv {d : Int} (h0 : 0 ≤ d) (h1 : d ≤ 9) : IntKind.u8.wrap (48 + d) = ((dig d.toNat).toNat : Int) := by
  have : ∀ x : Fin 10, IntKind.u8.wrap (48 + (x.1 : Int)) = ((dig x.1).toNat : Int) := by decide +kernel
  have := this ⟨d.toNat, by omega⟩
  rwa [show ((d.toNat : Nat) : Int) = d by omega] at this
theorem dtext_post (k lo hi : Int) (x : Nd) (h : ((k = 6 ∨ k = 7 ∨ k = 8) ∧ lo = 0 ∧ hi = 0) ∨ (k = 9 ∧ 0 ≤ lo ∧ lo ≤ hi ∧ hi ≤ 9)) (hlen : (textN 0 (.mk k 0 lo hi [x])).length ≤ 100000000) (X : FuncId → List AV → Option AV) (hch : ∀ i, i < [x].length → X 30 [.int .i64 k, nodeV ([x].getD i default)] = some (.str (textN k ([x].getD i default)))) :
    WP (EX md0 X) noR 1002 (fun _ => none) (Tryd.f15.body.getD .skip) (begin_ [nodeV (.mk k 0 lo hi [x])]) (fun _ => none) 0 (finDT (textN 0 (.mk k 0 lo hi [x]))) := by
  have ht : textN 0 (.mk k 0 lo hi [x]) = textN k x ++ tailS k lo hi := by
    rw [textN, if_neg (by omega), if_neg (by omega), if_neg (by omega), if_neg (by omega), textNs]; rfl
  rw [ht] at hlen ⊢
  rw [List.length_append] at hlen
  have hj : Lib.join (textNs k [x]) (sepN k) = textN k x := by rw [textNs, textNs, join_one]
  simp only [Tryd.f15, Option.getD_some, nodeV, cNd_mk]
  rcases h with ⟨rfl | rfl | rfl, rfl, rfl⟩ | ⟨rfl, h0, h1, h2⟩
  · simp (disch := omega) only [go_sem, ↓IntWalk.iteOmega, IntWalk.toNatUp, Nat.reduceEqDiff, Nat.reduceAdd, Nat.reduceMul, Nat.reduceSub, Nat.reduceLT, Nat.reduceLeDiff, Int.reduceToNat, Int.reduceLT, Int.reduceLE, Int.reduceEq, Int.reduceAdd, Int.reduceSub, Int.reduceMul, Int.toNat_natCast, reduceCtorEq, decide_true, decide_false, IntWalk.i64_in, IntWalk.u64_in, IntWalk.u8_in]
    refine dtext_loop 6 0 0 [x] (by omega) (by simp) (by rw [hj]; omega) X hch (by omega) rfl rfl rfl rfl (fun a o nx hnx a1 a3 ho => ?_)
    rw [hj] at a3
    simp (disch := omega) only [go_sem, ↓IntWalk.iteOmega, IntWalk.toNatUp, Nat.reduceEqDiff, Nat.reduceAdd, Nat.reduceMul, Nat.reduceSub, Nat.reduceLT, Nat.reduceLeDiff, Int.reduceToNat, Int.reduceLT, Int.reduceLE, Int.reduceEq, Int.reduceAdd, Int.reduceSub, Int.reduceMul, Int.toNat_natCast, reduceCtorEq, decide_true, decide_false, IntWalk.i64_in, IntWalk.u64_in, IntWalk.u8_in, a1, a3, ho]
    refine ⟨.inr rfl, ?_⟩
    simp only [Tryd.f15]
    simp (disch := omega) only [go_sem, ↓IntWalk.iteOmega, IntWalk.toNatUp, Nat.reduceEqDiff, Nat.reduceAdd, Nat.reduceMul, Nat.reduceSub, Nat.reduceLT, Nat.reduceLeDiff, Int.reduceToNat, Int.reduceLT, Int.reduceLE, Int.reduceEq, Int.reduceAdd, Int.reduceSub, Int.reduceMul, Int.toNat_natCast, reduceCtorEq, decide_true, decide_false, IntWalk.i64_in, IntWalk.u64_in, IntWalk.u8_in]
    rfl
  · simp (disch := omega) only [go_sem, ↓IntWalk.iteOmega, IntWalk.toNatUp, Nat.reduceEqDiff, Nat.reduceAdd, Nat.reduceMul, Nat.reduceSub, Nat.reduceLT, Nat.reduceLeDiff, Int.reduceToNat, Int.reduceLT, Int.reduceLE, Int.reduceEq, Int.reduceAdd, Int.reduceSub, Int.reduceMul, Int.toNat_natCast, reduceCtorEq, decide_true, decide_false, IntWalk.i64_in, IntWalk.u64_in, IntWalk.u8_in]
    refine dtext_loop 7 0 0 [x] (by omega) (by simp) (by rw [hj]; omega) X hch (by omega) rfl rfl rfl rfl (fun a o nx hnx a1 a3 ho => ?_)
    rw [hj] at a3
    simp (disch := omega) only [go_sem, ↓IntWalk.iteOmega, IntWalk.toNatUp, Nat.reduceEqDiff, Nat.reduceAdd, Nat.reduceMul, Nat.reduceSub, Nat.reduceLT, Nat.reduceLeDiff, Int.reduceToNat, Int.reduceLT, Int.reduceLE, Int.reduceEq, Int.reduceAdd, Int.reduceSub, Int.reduceMul, Int.toNat_natCast, reduceCtorEq, decide_true, decide_false, IntWalk.i64_in, IntWalk.u64_in, IntWalk.u8_in, a1, a3, ho]
    refine ⟨.inr rfl, ?_⟩
    simp only [Tryd.f15]
    simp (disch := omega) only [go_sem, ↓IntWalk.iteOmega, IntWalk.toNatUp, Nat.reduceEqDiff, Nat.reduceAdd, Nat.reduceMul, Nat.reduceSub, Nat.reduceLT, Nat.reduceLeDiff, Int.reduceToNat, Int.reduceLT, Int.reduceLE, Int.reduceEq, Int.reduceAdd, Int.reduceSub, Int.reduceMul, Int.toNat_natCast, reduceCtorEq, decide_true, decide_false, IntWalk.i64_in, IntWalk.u64_in, IntWalk.u8_in]
    rfl
  · simp (disch := omega) only [go_sem, ↓IntWalk.iteOmega, IntWalk.toNatUp, Nat.reduceEqDiff, Nat.reduceAdd, Nat.reduceMul, Nat.reduceSub, Nat.reduceLT, Nat.reduceLeDiff, Int.reduceToNat, Int.reduceLT, Int.reduceLE, Int.reduceEq, Int.reduceAdd, Int.reduceSub, Int.reduceMul, Int.toNat_natCast, reduceCtorEq, decide_true, decide_false, IntWalk.i64_in, IntWalk.u64_in, IntWalk.u8_in]
    refine dtext_loop 8 0 0 [x] (by omega) (by simp) (by rw [hj]; omega) X hch (by omega) rfl rfl rfl rfl (fun a o nx hnx a1 a3 ho => ?_)
    rw [hj] at a3
    simp (disch := omega) only [go_sem, ↓IntWalk.iteOmega, IntWalk.toNatUp, Nat.reduceEqDiff, Nat.reduceAdd, Nat.reduceMul, Nat.reduceSub, Nat.reduceLT, Nat.reduceLeDiff, Int.reduceToNat, Int.reduceLT, Int.reduceLE, Int.reduceEq, Int.reduceAdd, Int.reduceSub, Int.reduceMul, Int.toNat_natCast, reduceCtorEq, decide_true, decide_false, IntWalk.i64_in, IntWalk.u64_in, IntWalk.u8_in, a1, a3, ho]
    refine ⟨.inr rfl, ?_⟩
    simp only [Tryd.f15]
    simp (disch := omega) only [go_sem, ↓IntWalk.iteOmega, IntWalk.toNatUp, Nat.reduceEqDiff, Nat.reduceAdd, Nat.reduceMul, Nat.reduceSub, Nat.reduceLT, Nat.reduceLeDiff, Int.reduceToNat, Int.reduceLT, Int.reduceLE, Int.reduceEq, Int.reduceAdd, Int.reduceSub, Int.reduceMul, Int.toNat_natCast, reduceCtorEq, decide_true, decide_false, IntWalk.i64_in, IntWalk.u64_in, IntWalk.u8_in]
    rfl
  · have c1 := dig_conv h0 (by omega)
    have c2 := dig_conv (d := hi) (by omega) h2
    simp (disch := omega) only [go_sem, ↓IntWalk.iteOmega, IntWalk.toNatUp, Nat.reduceEqDiff, Nat.reduceAdd, Nat.reduceMul, Nat.reduceSub, Nat.reduceLT, Nat.reduceLeDiff, Int.reduceToNat, Int.reduceLT, Int.reduceLE, Int.reduceEq, Int.reduceAdd, Int.reduceSub, Int.reduceMul, Int.toNat_natCast, reduceCtorEq, decide_true, decide_false, IntWalk.i64_in, IntWalk.u64_in, IntWalk.u8_in]
    refine dtext_loop 9 lo hi [x] (by omega) (by simp) (by rw [hj]; omega) X hch (by omega) rfl rfl rfl rfl (fun a o nx hnx a1 a3 ho => ?_)
    rw [hj] at a3
    have hcv : ∀ (tg k g : Tag) (o : Ob) (nx : Nat), o k = some (.row ⟨5, 1, g, false, true, [.int .u8 123, .int .u8 (dig lo.toNat).toNat, .int .u8 44, .int .u8 (dig hi.toNat).toNat, .int .u8 125]⟩) → aConvert Tryd.prog tg 31 9 (.ref k g 0 5) ⟨o, nx⟩ = some (.str [123, dig lo.toNat, 44, dig hi.toNat, 125], ⟨o, nx⟩) := fun tg k g o nx h => cv_bytes _ h rfl rfl
    simp (disch := omega) only [go_sem, ↓IntWalk.iteOmega, IntWalk.toNatUp, Nat.reduceEqDiff, Nat.reduceAdd, Nat.reduceMul, Nat.reduceSub, Nat.reduceLT, Nat.reduceLeDiff, Int.reduceToNat, Int.reduceLT, Int.reduceLE, Int.reduceEq, Int.reduceAdd, Int.reduceSub, Int.reduceMul, Int.toNat_natCast, reduceCtorEq, decide_true, decide_false, IntWalk.i64_in, IntWalk.u64_in, IntWalk.u8_in, a1, a3, ho, c1, c2]
    rw [hcv _ _ _ _ _ (upd_same _ _ _)]
    simp (disch := omega) only [go_sem, ↓IntWalk.iteOmega, IntWalk.toNatUp, Nat.reduceEqDiff, Nat.reduceAdd, Nat.reduceMul, Nat.reduceSub, Nat.reduceLT, Nat.reduceLeDiff, Int.reduceToNat, Int.reduceLT, Int.reduceLE, Int.reduceEq, Int.reduceAdd, Int.reduceSub, Int.reduceMul, Int.toNat_natCast, reduceCtorEq, decide_true, decide_false, IntWalk.i64_in, IntWalk.u64_in, IntWalk.u8_in]
    refine ⟨.inr rfl, ?_⟩
    simp only [Tryd.f15]
    simp (disch := omega) only [go_sem, ↓IntWalk.iteOmega, IntWalk.toNatUp, Nat.reduceEqDiff, Nat.reduceAdd, Nat.reduceMul, Nat.reduceSub, Nat.reduceLT, Nat.reduceLeDiff, Int.reduceToNat, Int.reduceLT, Int.reduceLE, Int.reduceEq, Int.reduceAdd, Int.reduceSub, Int.reduceMul, Int.toNat_natCast, reduceCtorEq, decide_true, decide_false, IntWalk.i64_in, IntWalk.u64_in, IntWalk.u8_in]
    rfl
def RBr (k : Int) (l : List Nd) (args : List AV) (r : AV) : Prop := ∃ i, i < l.length ∧ args = [.int .i64 k, nodeV (l.getD i default)] ∧ r = .str (textN k (l.getD i default))
theorem RBr_fn (k l) : Fun1 (RBr k l) := by
  rintro args r r' ⟨i, _, rfl, rfl⟩ ⟨j, _, h, rfl⟩
  simp only [List.cons.injEq, AV.agg.injEq, and_true, true_and] at h
  rw [cNd_inj h]
noncomputable def XDt (k : Int) (l : List Nd) : FuncId → List AV → Option AV := tabLook [(30, tRel (RBr k l)), (29, (calls E4 1000).1 29)]
theorem text_le0 (k : Int) (x : Nd) (hk : k ≠ 0) : (textN 0 x).length ≤ (textN k x).length := by
  rw [text_brk hk, brkS]
  split
  · simp; omega
  · omega
theorem dtext_ok : ∀ (n : Nd), rightN n = true → wideN n = true → (textN 0 n).length ≤ 100000000 → Ok Tryd.prog 15 [nodeV n] (.str (textN 0 n))
  | .mk k s lo hi l, hr, hw, hlen => by
    obtain ⟨hx, hc⟩ := right_cases hr
    rw [wideN, Bool.and_eq_true, decide_eq_true_eq] at hw
    have hk0 : k ≠ 0 := by omega
    have hok : CPSound Tryd.prog (XDt k l) := tab_cons (tab_cons (tab_nil _) (fun args r h => ok_calls (E := E4) ext4_ok mixed h)) (tRel_ok (fun args r h' => by
      obtain ⟨i, hil, rfl, rfl⟩ := h'
      have hm : l.getD i default ∈ l := by
        rw [List.getD_eq_getElem?_getD, List.getElem?_eq_getElem hil]
        exact List.getElem_mem hil
      have := size_at_lt hil k s lo hi
      have hle : (textN 0 (l.getD i default)).length ≤ 100000000 := Nat.le_trans (text_le0 k _ hk0) (Nat.le_trans (text_kid hr hm) hlen)
      exact bracketed_ok k _ hk0 hle (dtext_ok (l.getD i default) (hx _ hm) (wide_at hw.2 hil) hle)))
    have hset : ∀ s : Nat, 1 ≤ s → s ≤ 31 → XDt k l 29 [.int .i64 s] = some (.str (setS s)) := fun s h0 h1 => dset_at h0 h1
    have hch : ∀ i, i < l.length → XDt k l 30 [.int .i64 k, nodeV (l.getD i default)] = some (.str (textN k (l.getD i default))) := fun i h => tRel_eq (RBr_fn k l) ⟨i, h, rfl, rfl⟩
    refine ok_of_WP (E := EX md0 (XDt k l)) (cr := noR) hok (noR_ok _) mixed (k := 1002) Tryd.func15 (lookDText _) rfl ?_
    rcases hc with ⟨rfl, rfl, rfl, rfl, h0, h1⟩ | ⟨hk, rfl, rfl, rfl, rfl⟩ | ⟨hk, rfl, rfl, rfl, y1, y2, r, rfl⟩ | ⟨hk, rfl, rfl, rfl, x, rfl⟩ | ⟨rfl, rfl, h0, h1, h2, x, rfl⟩
    · exact dtext_leaf 1 s (.inl ⟨rfl, h0, h1⟩) _ hset
    · exact dtext_leaf k 0 (by omega) _ hset
    · exact dtext_many k _ hk hw.1 hlen _ hch
    · exact dtext_post k 0 0 x (.inl ⟨hk, rfl, rfl⟩) hlen _ hch
    · exact dtext_post 9 lo hi x (.inr ⟨rfl, h0, h1, h2⟩) hlen _ hch
termination_by n => SizeOf.sizeOf n
decreasing_by
  exact this
theorem RText_dok (args r) (h : RText args r) : Ok Tryd.prog 15 args r := by
  obtain ⟨n, h1, h2, h3, rfl, rfl⟩ := h
  exact dtext_ok n h1 h2 h3
end Go.Proofs.YtmcbfbpdfbcakaaDoor.A
/- Sizes, lengths, depths; Size, Same: contracts. -/
namespace Go.Proofs.YtmcbfbpdfbcakaaDoor.A
open Go
set_option maxRecDepth 20000
mutual
def szN : Nd → Nat
  | .mk _ _ _ _ l => 1 + szNs l
def szNs : List Nd → Nat
  | [] => 0
  | x :: l => szN x + szNs l
end
theorem szN_pos (x : Nd) : 1 ≤ szN x := by cases x; rw [szN]; omega
theorem szNs_app (l m : List Nd) : szNs (l ++ m) = szNs l + szNs m := by
  induction l with
  | nil => rw [szNs]; simp
  | cons x l ih => rw [List.cons_append, szNs, szNs, ih]; omega
theorem szNs_take (l : List Nd) (i : Nat) : szNs (l.take i) ≤ szNs l := by
  have := szNs_app (l.take i) (l.drop i)
  rw [List.take_append_drop] at this
  omega
theorem szNs_mem {l : List Nd} {x : Nd} (h : x ∈ l) : szN x ≤ szNs l := by
  induction l with
  | nil => cases h
  | cons y l ih =>
    rw [szNs]
    rcases List.mem_cons.1 h with rfl | h
    · omega
    · have := ih h; omega
mutual
theorem size_pow : ∀ n : Nd, slimN n = true → szN n < 5 ^ dN n
  | .mk k s lo hi l, h => by
    rw [slimN, Bool.and_eq_true, decide_eq_true_eq] at h
    have := sizes_pow l h.2
    rw [szN, dN, Nat.pow_succ]
    have : l.length * (5 ^ dNs l - 1) ≤ 4 * (5 ^ dNs l - 1) := Nat.mul_le_mul_right _ h.1
    have := Nat.one_le_pow (dNs l) 5 (by omega)
    omega
theorem sizes_pow : ∀ l : List Nd, slimNs l = true → szNs l ≤ l.length * (5 ^ dNs l - 1)
  | [], _ => by rw [szNs]; omega
  | x :: l, h => by
    rw [slimNs, Bool.and_eq_true] at h
    have h1 := size_pow x h.1
    have h2 := sizes_pow l h.2
    have h3 : 5 ^ dN x ≤ 5 ^ max (dN x) (dNs l) := Nat.pow_le_pow_right (by omega) (by omega)
    have h4 : 5 ^ dNs l ≤ 5 ^ max (dN x) (dNs l) := Nat.pow_le_pow_right (by omega) (by omega)
    rw [szNs, dNs, List.length_cons, Nat.succ_mul]
    have : l.length * (5 ^ dNs l - 1) ≤ l.length * (5 ^ max (dN x) (dNs l) - 1) := Nat.mul_le_mul_left _ (by omega)
    omega
end
mutual
theorem bd_le : ∀ n : Nd, bd n ≤ dN n ∧ bd5 n ≤ dN n
  | .mk k s lo hi l => by
    have := bds_dNs l
    rw [bd, bd5, dN]
    constructor <;> split <;> (try split) <;> omega
theorem bds_dNs : ∀ l : List Nd, bds l ≤ dNs l ∧ bd5s l ≤ dNs l
  | [] => by rw [bds, bd5s, dNs]; omega
  | x :: l => by
    have h1 := bd_le x
    have h2 := bds_dNs l
    rw [bds, bd5s, dNs]
    omega
end
theorem bd0_le (n : Nd) : bd0 n ≤ dN n := by
  obtain ⟨k, s, lo, hi, l⟩ := n
  have := bds_dNs l
  rw [bd0, dN]
  split <;> omega
theorem set_len : ∀ q : Fin 31, (setS (q.1 + 1)).length ≤ 7 := by decide +kernel
theorem joins_len (k : Int) (sep : List UInt8) (hs : sep.length ≤ 1) : ∀ l : List Nd, (∀ x ∈ l, (textN k x).length + 1 ≤ 9 * szN x) → l ≠ [] → (Lib.join (textNs k l) sep).length + 1 ≤ 9 * szNs l
  | [], _, h => absurd rfl h
  | [x], h, _ => by
    rw [textNs, textNs, join_one, szNs, szNs]
    exact h x (by simp)
  | x :: y :: l, h, _ => by
    have h1 := h x (by simp)
    have h2 := joins_len k sep hs (y :: l) (fun z hz => h z (List.mem_cons_of_mem _ hz)) (by simp)
    have e : textNs k (x :: y :: l) = textN k x :: textN k y :: textNs k l := by rw [textNs, textNs]
    have e2 : textNs k (y :: l) = textN k y :: textNs k l := by rw [textNs]
    have e3 : szNs (x :: y :: l) = szN x + szNs (y :: l) := by rw [szNs]
    rw [e2] at h2
    rw [e, join_cons2, List.length_append, List.length_append, e3]
    omega
theorem text_len : ∀ (n : Nd) (w : Int), rightN n = true → (textN w n).length + 1 ≤ 9 * szN n
  | .mk k s lo hi l, w, hr => by
    obtain ⟨hx, hc⟩ := right_cases hr
    have hkid : ∀ x ∈ l, (textN k x).length + 1 ≤ 9 * szN x := fun x hm => by
      have : SizeOf.sizeOf x < SizeOf.sizeOf (Nd.mk k s lo hi l) := by
        have := List.sizeOf_lt_of_mem hm
        simp only [Nd.mk.sizeOf_spec]
        omega
      exact text_len x k (hx x hm)
    rw [szN]
    rcases hc with ⟨rfl, rfl, rfl, rfl, h0, h1⟩ | ⟨hk, rfl, rfl, rfl, rfl⟩ | ⟨hk, rfl, rfl, rfl, y1, y2, r, rfl⟩ | ⟨hk, rfl, rfl, rfl, x, rfl⟩ | ⟨rfl, rfl, h0, h1, h2, x, rfl⟩
    · rw [textN, if_pos rfl]
      have := set_len ⟨s.toNat - 1, by omega⟩
      rw [show s.toNat - 1 + 1 = s.toNat by omega] at this
      omega
    · rcases hk with rfl | rfl
      · rw [textN, if_neg (by decide), if_pos rfl]; simp; omega
      · rw [textN, if_neg (by decide), if_neg (by decide), if_pos rfl]; simp; omega
    · rw [textN, if_neg (by omega), if_neg (by omega), if_neg (by omega), if_pos hk, brkS]
      have := joins_len k (if k = 5 then [124] else []) (by split <;> simp) _ hkid (by simp)
      split
      · simp only [List.length_cons, List.length_append, List.length_nil]; omega
      · omega
    · have := hkid x (by simp)
      rw [textN, if_neg (by omega), if_neg (by omega), if_neg (by omega), if_neg (by omega), textNs, szNs, szNs, List.headD_cons, List.length_append]
      have : (tailS k 0 0).length ≤ 5 := by unfold tailS; repeat' split
                                            all_goals simp
      omega
    · have := hkid x (by simp)
      rw [textN, if_neg (by omega), if_neg (by omega), if_neg (by omega), if_neg (by omega), textNs, szNs, szNs, List.headD_cons, List.length_append]
      have : (tailS 9 lo hi).length ≤ 5 := by unfold tailS; repeat' split
                                              all_goals simp
      omega
termination_by n => SizeOf.sizeOf n
decreasing_by
  exact this
/-- What an expression of raw ones is. -/
theorem one_all {l : List Rw} (h : fewR l = true) : rightN (oneN l) = true ∧ wideN (oneN l) = true ∧ szN (oneN l) ≤ 1000000 ∧ (∀ w, (textN w (oneN l)).length ≤ 9000000) ∧ bd0 (oneN l) ≤ 8 ∧ bd (oneN l) ≤ 8 ∧ bd5 (oneN l) ≤ 8 := by
  obtain ⟨h1, h2, h3⟩ := oneN_okR h
  have h4 := size_pow _ h2
  have h5 : 5 ^ dN (oneN l) ≤ 5 ^ 8 := Nat.pow_le_pow_right (by omega) h3
  have h6 := bd_le (oneN l)
  have h7 := bd0_le (oneN l)
  have e : 5 ^ 8 = 390625 := by decide
  refine ⟨h1, slim_wide _ h2, by omega, fun w => ?_, by omega, by omega, by omega⟩
  have := text_len (oneN l) w h1
  omega
/-! ### Size -/
theorem lookRSize (X) : lookedAt (EX md0 X) (fun _ => none) 1 Tryd.f26 = true := by kernel_rfl
theorem lookDSize (X) : lookedAt (EX md0 X) (fun _ => none) 1 Tryd.f27 = true := by kernel_rfl
def RSz (l : List Nd) (args : List AV) (r : AV) : Prop := ∃ i, i < l.length ∧ args = [nodeV (l.getD i default)] ∧ r = .int .i64 (szN (l.getD i default))
theorem RSz_fn (l) : Fun1 (RSz l) := by
  rintro args r r' ⟨i, _, rfl, rfl⟩ ⟨j, _, h, rfl⟩
  simp only [List.cons.injEq, AV.agg.injEq, and_true] at h
  rw [cNd_inj h]
theorem nd_memU {l : List Nd} {i : Nat} (h : i < l.length) : l.getD i default ∈ l := by
  rw [List.getD_eq_getElem?_getD, List.getElem?_eq_getElem h]
  exact List.getElem_mem h
theorem szNs_snoc {l : List Nd} {i : Nat} (h : i < l.length) : szNs (l.take (i + 1)) = szNs (l.take i) + szN (l.getD i default) := by
  rw [take_succ_getD h default, szNs_app, szNs, szNs]
  omega
theorem rsize_ok : ∀ n : Nd, wideN n = true → szN n ≤ 1000000000 → Ok Tryd.prog 26 [nodeV n] (.int .i64 (szN n))
  | .mk k s lo hi l, hw, hsz => by
    rw [wideN, Bool.and_eq_true, decide_eq_true_eq] at hw
    rw [szN] at hsz ⊢
    refine ok_of_WP (E := EX md0 (tabLook [(26, tRel (RSz l))])) (cr := noR) (tab_cons (tab_nil _) (tRel_ok (fun args r h' => by
      obtain ⟨i, hil, rfl, rfl⟩ := h'
      have hmem := szNs_mem (nd_memU hil)
      have := size_at_lt hil k s lo hi
      exact rsize_ok (l.getD i default) (wide_at hw.2 hil) (by omega)))) (noR_ok _) mixed (k := 1002) Tryd.func26 (lookRSize _) rfl ?_
    have hch : ∀ i, i < l.length → tabLook [(26, tRel (RSz l))] 26 [nodeV (l.getD i default)] = some (.int .i64 (szN (l.getD i default))) := fun i h => tRel_eq (RSz_fn l) ⟨i, h, rfl, rfl⟩
    simp only [Tryd.f26, Option.getD_some, nodeV, cNd_mk]
    have hl := hw.1
    simp (disch := omega) only [go_sem, ↓IntWalk.iteOmega, IntWalk.toNatUp, Nat.reduceEqDiff, Nat.reduceAdd, Nat.reduceMul, Nat.reduceSub, Nat.reduceLT, Nat.reduceLeDiff, Int.reduceToNat, Int.reduceLT, Int.reduceLE, Int.reduceEq, Int.reduceAdd, Int.reduceSub, Int.reduceMul, Int.toNat_natCast, reduceCtorEq, decide_true, decide_false, IntWalk.i64_in, IntWalk.u64_in, IntWalk.u8_in]
    refine WP_loop (fun m a o nx => ∃ i : Nat, i ≤ l.length ∧ m = l.length - i ∧ 1 ≤ nx ∧ a 3 = .int .i64 ((1 + szNs (l.take i) : Nat) : Int) ∧ a 7 = slN l ∧ a 8 = .int .i64 l.length ∧ a 9 = .int .i64 i) l.length (by omega) ⟨0, by omega, by omega, by omega, by simp (disch := omega) only [go_sem, ↓IntWalk.iteOmega, IntWalk.toNatUp, Nat.reduceEqDiff, Nat.reduceAdd, Nat.reduceMul, Nat.reduceSub, Nat.reduceLT, Nat.reduceLeDiff, Int.reduceToNat, Int.reduceLT, Int.reduceLE, Int.reduceEq, Int.reduceAdd, Int.reduceSub, Int.reduceMul, Int.toNat_natCast, reduceCtorEq, decide_true, decide_false, IntWalk.i64_in, IntWalk.u64_in, IntWalk.u8_in]; rw [szNs]; rfl, by simp (disch := omega) only [go_sem, ↓IntWalk.iteOmega, IntWalk.toNatUp, Nat.reduceEqDiff, Nat.reduceAdd, Nat.reduceMul, Nat.reduceSub, Nat.reduceLT, Nat.reduceLeDiff, Int.reduceToNat, Int.reduceLT, Int.reduceLE, Int.reduceEq, Int.reduceAdd, Int.reduceSub, Int.reduceMul, Int.toNat_natCast, reduceCtorEq, decide_true, decide_false, IntWalk.i64_in, IntWalk.u64_in, IntWalk.u8_in], by simp (disch := omega) only [go_sem, ↓IntWalk.iteOmega, IntWalk.toNatUp, Nat.reduceEqDiff, Nat.reduceAdd, Nat.reduceMul, Nat.reduceSub, Nat.reduceLT, Nat.reduceLeDiff, Int.reduceToNat, Int.reduceLT, Int.reduceLE, Int.reduceEq, Int.reduceAdd, Int.reduceSub, Int.reduceMul, Int.toNat_natCast, reduceCtorEq, decide_true, decide_false, IntWalk.i64_in, IntWalk.u64_in, IntWalk.u8_in], by simp (disch := omega) only [go_sem, ↓IntWalk.iteOmega, IntWalk.toNatUp, Nat.reduceEqDiff, Nat.reduceAdd, Nat.reduceMul, Nat.reduceSub, Nat.reduceLT, Nat.reduceLeDiff, Int.reduceToNat, Int.reduceLT, Int.reduceLE, Int.reduceEq, Int.reduceAdd, Int.reduceSub, Int.reduceMul, Int.toNat_natCast, reduceCtorEq, decide_true, decide_false, IntWalk.i64_in, IntWalk.u64_in, IntWalk.u8_in]⟩ ?_
    rintro m a o nx ⟨i, hi', rfl, hnx, a3, a7, a8, a9⟩
    have hle := szNs_take l i
    by_cases hlt : i < l.length
    · have hat := cNds_at hlt
      have hci := hch i hlt
      have hsn := szNs_snoc hlt
      have hle2 := szNs_take l (i + 1)
      simp only [nodeV] at hci
      generalize l.getD i default = x at *
      simp (disch := omega) only [go_sem, ↓IntWalk.iteOmega, IntWalk.toNatUp, Nat.reduceEqDiff, Nat.reduceAdd, Nat.reduceMul, Nat.reduceSub, Nat.reduceLT, Nat.reduceLeDiff, Int.reduceToNat, Int.reduceLT, Int.reduceLE, Int.reduceEq, Int.reduceAdd, Int.reduceSub, Int.reduceMul, Int.toNat_natCast, reduceCtorEq, decide_true, decide_false, IntWalk.i64_in, IntWalk.u64_in, IntWalk.u8_in, a3, a7, a8, a9, hat, hci]
      refine ⟨_, by omega, i + 1, by omega, rfl, ?_, rfl⟩
      rw [hsn]
      congr 1
      omega
    · have hie : i = l.length := by omega
      rw [hie, List.take_length] at a3
      simp (disch := omega) only [go_sem, ↓IntWalk.iteOmega, IntWalk.toNatUp, Nat.reduceEqDiff, Nat.reduceAdd, Nat.reduceMul, Nat.reduceSub, Nat.reduceLT, Nat.reduceLeDiff, Int.reduceToNat, Int.reduceLT, Int.reduceLE, Int.reduceEq, Int.reduceAdd, Int.reduceSub, Int.reduceMul, Int.toNat_natCast, reduceCtorEq, decide_true, decide_false, IntWalk.i64_in, IntWalk.u64_in, IntWalk.u8_in, a3, a7, a8, a9]
termination_by n => SizeOf.sizeOf n
decreasing_by
  exact this
theorem dsize_ok : ∀ n : Nd, wideN n = true → szN n ≤ 1000000000 → Ok Tryd.prog 27 [nodeV n] (.int .i64 (szN n))
  | .mk k s lo hi l, hw, hsz => by
    rw [wideN, Bool.and_eq_true, decide_eq_true_eq] at hw
    rw [szN] at hsz ⊢
    refine ok_of_WP (E := EX md0 (tabLook [(27, tRel (RSz l))])) (cr := noR) (tab_cons (tab_nil _) (tRel_ok (fun args r h' => by
      obtain ⟨i, hil, rfl, rfl⟩ := h'
      have hmem := szNs_mem (nd_memU hil)
      have := size_at_lt hil k s lo hi
      exact dsize_ok (l.getD i default) (wide_at hw.2 hil) (by omega)))) (noR_ok _) mixed (k := 1002) Tryd.func27 (lookDSize _) rfl ?_
    have hch : ∀ i, i < l.length → tabLook [(27, tRel (RSz l))] 27 [nodeV (l.getD i default)] = some (.int .i64 (szN (l.getD i default))) := fun i h => tRel_eq (RSz_fn l) ⟨i, h, rfl, rfl⟩
    simp only [Tryd.f27, Option.getD_some, nodeV, cNd_mk]
    have hl := hw.1
    simp (disch := omega) only [go_sem, ↓IntWalk.iteOmega, IntWalk.toNatUp, Nat.reduceEqDiff, Nat.reduceAdd, Nat.reduceMul, Nat.reduceSub, Nat.reduceLT, Nat.reduceLeDiff, Int.reduceToNat, Int.reduceLT, Int.reduceLE, Int.reduceEq, Int.reduceAdd, Int.reduceSub, Int.reduceMul, Int.toNat_natCast, reduceCtorEq, decide_true, decide_false, IntWalk.i64_in, IntWalk.u64_in, IntWalk.u8_in]
    refine WP_loop (fun m a o nx => ∃ i : Nat, i ≤ l.length ∧ m = l.length - i ∧ 1 ≤ nx ∧ a 1 = .ptr (0, 1) (0, 1) 0 ∧ a 3 = .int .i64 ((1 + szNs (l.take i) : Nat) : Int) ∧ a 4 = .int .i64 i ∧ o (0, 1) = some (.row ⟨29, 1, (0, 1), false, true, [.int .i64 k, .int .i64 s, .int .i64 lo, .int .i64 hi, slN l]⟩)) l.length (by omega) ⟨0, by omega, by omega, by omega, by simp (disch := omega) only [go_sem, ↓IntWalk.iteOmega, IntWalk.toNatUp, Nat.reduceEqDiff, Nat.reduceAdd, Nat.reduceMul, Nat.reduceSub, Nat.reduceLT, Nat.reduceLeDiff, Int.reduceToNat, Int.reduceLT, Int.reduceLE, Int.reduceEq, Int.reduceAdd, Int.reduceSub, Int.reduceMul, Int.toNat_natCast, reduceCtorEq, decide_true, decide_false, IntWalk.i64_in, IntWalk.u64_in, IntWalk.u8_in], by simp (disch := omega) only [go_sem, ↓IntWalk.iteOmega, IntWalk.toNatUp, Nat.reduceEqDiff, Nat.reduceAdd, Nat.reduceMul, Nat.reduceSub, Nat.reduceLT, Nat.reduceLeDiff, Int.reduceToNat, Int.reduceLT, Int.reduceLE, Int.reduceEq, Int.reduceAdd, Int.reduceSub, Int.reduceMul, Int.toNat_natCast, reduceCtorEq, decide_true, decide_false, IntWalk.i64_in, IntWalk.u64_in, IntWalk.u8_in]; rw [szNs]; rfl, by simp (disch := omega) only [go_sem, ↓IntWalk.iteOmega, IntWalk.toNatUp, Nat.reduceEqDiff, Nat.reduceAdd, Nat.reduceMul, Nat.reduceSub, Nat.reduceLT, Nat.reduceLeDiff, Int.reduceToNat, Int.reduceLT, Int.reduceLE, Int.reduceEq, Int.reduceAdd, Int.reduceSub, Int.reduceMul, Int.toNat_natCast, reduceCtorEq, decide_true, decide_false, IntWalk.i64_in, IntWalk.u64_in, IntWalk.u8_in], by simp (disch := omega) only [go_sem, ↓IntWalk.iteOmega, IntWalk.toNatUp, Nat.reduceEqDiff, Nat.reduceAdd, Nat.reduceMul, Nat.reduceSub, Nat.reduceLT, Nat.reduceLeDiff, Int.reduceToNat, Int.reduceLT, Int.reduceLE, Int.reduceEq, Int.reduceAdd, Int.reduceSub, Int.reduceMul, Int.toNat_natCast, reduceCtorEq, decide_true, decide_false, IntWalk.i64_in, IntWalk.u64_in, IntWalk.u8_in]⟩ ?_
    rintro m a o nx ⟨i, hi', rfl, hnx, a1, a3, a4, ho⟩
    have hle := szNs_take l i
    by_cases hlt : i < l.length
    · have hat := cNds_at hlt
      have hci := hch i hlt
      have hsn := szNs_snoc hlt
      have hle2 := szNs_take l (i + 1)
      simp only [nodeV] at hci
      generalize l.getD i default = x at *
      simp (disch := omega) only [go_sem, ↓IntWalk.iteOmega, IntWalk.toNatUp, Nat.reduceEqDiff, Nat.reduceAdd, Nat.reduceMul, Nat.reduceSub, Nat.reduceLT, Nat.reduceLeDiff, Int.reduceToNat, Int.reduceLT, Int.reduceLE, Int.reduceEq, Int.reduceAdd, Int.reduceSub, Int.reduceMul, Int.toNat_natCast, reduceCtorEq, decide_true, decide_false, IntWalk.i64_in, IntWalk.u64_in, IntWalk.u8_in, a1, a3, a4, ho, hat, hci]
      refine ⟨_, by omega, i + 1, by omega, rfl, ?_, rfl⟩
      rw [hsn]
      congr 1
      omega
    · have hie : i = l.length := by omega
      rw [hie, List.take_length] at a3
      simp (disch := omega) only [go_sem, ↓IntWalk.iteOmega, IntWalk.toNatUp, Nat.reduceEqDiff, Nat.reduceAdd, Nat.reduceMul, Nat.reduceSub, Nat.reduceLT, Nat.reduceLeDiff, Int.reduceToNat, Int.reduceLT, Int.reduceLE, Int.reduceEq, Int.reduceAdd, Int.reduceSub, Int.reduceMul, Int.toNat_natCast, reduceCtorEq, decide_true, decide_false, IntWalk.i64_in, IntWalk.u64_in, IntWalk.u8_in, a1, a3, a4, ho]
termination_by n => SizeOf.sizeOf n
decreasing_by
  exact this
/-! ### Same, of two alike -/
theorem lookSame4 (X) : lookedAt (EX md0 X) (fun _ => none) 2 Tryd.f20 = true := by kernel_rfl
def RSa (l : List Nd) (args : List AV) (r : AV) : Prop := ∃ i, i < l.length ∧ args = [nodeV (l.getD i default), nodeV (l.getD i default)] ∧ r = .bool true
theorem RSa_fn (l) : Fun1 (RSa l) := by
  rintro args r r' ⟨i, _, rfl, rfl⟩ ⟨j, _, h, rfl⟩
  rfl
theorem same4_ok : ∀ n : Nd, wideN n = true → Ok Tryd.prog 20 [nodeV n, nodeV n] (.bool true)
  | .mk k s lo hi l, hw => by
    rw [wideN, Bool.and_eq_true, decide_eq_true_eq] at hw
    refine ok_of_WP (E := EX md0 (tabLook [(20, tRel (RSa l))])) (cr := noR) (tab_cons (tab_nil _) (tRel_ok (fun args r h' => by
      obtain ⟨i, hil, rfl, rfl⟩ := h'
      have := size_at_lt hil k s lo hi
      exact same4_ok (l.getD i default) (wide_at hw.2 hil)))) (noR_ok _) mixed (k := 1002) Tryd.func20 (lookSame4 _) rfl ?_
    have hch : ∀ i, i < l.length → tabLook [(20, tRel (RSa l))] 20 [nodeV (l.getD i default), nodeV (l.getD i default)] = some (.bool true) := fun i h => tRel_eq (RSa_fn l) ⟨i, h, rfl, rfl⟩
    simp only [Tryd.f20, Option.getD_some, nodeV, cNd_mk]
    have hl := hw.1
    simp (disch := omega) only [go_sem, ↓IntWalk.iteOmega, IntWalk.toNatUp, Nat.reduceEqDiff, Nat.reduceAdd, Nat.reduceMul, Nat.reduceSub, Nat.reduceLT, Nat.reduceLeDiff, Int.reduceToNat, Int.reduceLT, Int.reduceLE, Int.reduceEq, Int.reduceAdd, Int.reduceSub, Int.reduceMul, Int.toNat_natCast, reduceCtorEq, decide_true, decide_false, IntWalk.i64_in, IntWalk.u64_in, IntWalk.u8_in]
    refine WP_loop (fun m a o nx => ∃ i : Nat, i ≤ l.length ∧ m = l.length - i ∧ 1 ≤ nx ∧ a 2 = .ptr (0, 2) (0, 2) 0 ∧ a 3 = .ptr (0, 3) (0, 3) 0 ∧ a 5 = .int .i64 i ∧ o (0, 2) = some (.row ⟨29, 1, (0, 2), false, true, [.int .i64 k, .int .i64 s, .int .i64 lo, .int .i64 hi, slN l]⟩) ∧ o (0, 3) = some (.row ⟨29, 1, (0, 3), false, true, [.int .i64 k, .int .i64 s, .int .i64 lo, .int .i64 hi, slN l]⟩)) l.length (by omega) ⟨0, by omega, by omega, by omega, by simp (disch := omega) only [go_sem, ↓IntWalk.iteOmega, IntWalk.toNatUp, Nat.reduceEqDiff, Nat.reduceAdd, Nat.reduceMul, Nat.reduceSub, Nat.reduceLT, Nat.reduceLeDiff, Int.reduceToNat, Int.reduceLT, Int.reduceLE, Int.reduceEq, Int.reduceAdd, Int.reduceSub, Int.reduceMul, Int.toNat_natCast, reduceCtorEq, decide_true, decide_false, IntWalk.i64_in, IntWalk.u64_in, IntWalk.u8_in], by simp (disch := omega) only [go_sem, ↓IntWalk.iteOmega, IntWalk.toNatUp, Nat.reduceEqDiff, Nat.reduceAdd, Nat.reduceMul, Nat.reduceSub, Nat.reduceLT, Nat.reduceLeDiff, Int.reduceToNat, Int.reduceLT, Int.reduceLE, Int.reduceEq, Int.reduceAdd, Int.reduceSub, Int.reduceMul, Int.toNat_natCast, reduceCtorEq, decide_true, decide_false, IntWalk.i64_in, IntWalk.u64_in, IntWalk.u8_in], by simp (disch := omega) only [go_sem, ↓IntWalk.iteOmega, IntWalk.toNatUp, Nat.reduceEqDiff, Nat.reduceAdd, Nat.reduceMul, Nat.reduceSub, Nat.reduceLT, Nat.reduceLeDiff, Int.reduceToNat, Int.reduceLT, Int.reduceLE, Int.reduceEq, Int.reduceAdd, Int.reduceSub, Int.reduceMul, Int.toNat_natCast, reduceCtorEq, decide_true, decide_false, IntWalk.i64_in, IntWalk.u64_in, IntWalk.u8_in], by simp (disch := omega) only [go_sem, ↓IntWalk.iteOmega, IntWalk.toNatUp, Nat.reduceEqDiff, Nat.reduceAdd, Nat.reduceMul, Nat.reduceSub, Nat.reduceLT, Nat.reduceLeDiff, Int.reduceToNat, Int.reduceLT, Int.reduceLE, Int.reduceEq, Int.reduceAdd, Int.reduceSub, Int.reduceMul, Int.toNat_natCast, reduceCtorEq, decide_true, decide_false, IntWalk.i64_in, IntWalk.u64_in, IntWalk.u8_in], by simp (disch := omega) only [go_sem, ↓IntWalk.iteOmega, IntWalk.toNatUp, Nat.reduceEqDiff, Nat.reduceAdd, Nat.reduceMul, Nat.reduceSub, Nat.reduceLT, Nat.reduceLeDiff, Int.reduceToNat, Int.reduceLT, Int.reduceLE, Int.reduceEq, Int.reduceAdd, Int.reduceSub, Int.reduceMul, Int.toNat_natCast, reduceCtorEq, decide_true, decide_false, IntWalk.i64_in, IntWalk.u64_in, IntWalk.u8_in]⟩ ?_
    rintro m a o nx ⟨i, hi', rfl, hnx, a2, a3, a5, ho2, ho3⟩
    by_cases hlt : i < l.length
    · have hat := cNds_at hlt
      have hci := hch i hlt
      simp only [nodeV] at hci
      generalize l.getD i default = x at *
      simp (disch := omega) only [go_sem, ↓IntWalk.iteOmega, IntWalk.toNatUp, Nat.reduceEqDiff, Nat.reduceAdd, Nat.reduceMul, Nat.reduceSub, Nat.reduceLT, Nat.reduceLeDiff, Int.reduceToNat, Int.reduceLT, Int.reduceLE, Int.reduceEq, Int.reduceAdd, Int.reduceSub, Int.reduceMul, Int.toNat_natCast, reduceCtorEq, decide_true, decide_false, IntWalk.i64_in, IntWalk.u64_in, IntWalk.u8_in, a2, a3, a5, ho2, ho3, hat, hci]
      exact ⟨_, by omega, i + 1, by omega, rfl, rfl⟩
    · simp (disch := omega) only [go_sem, ↓IntWalk.iteOmega, IntWalk.toNatUp, Nat.reduceEqDiff, Nat.reduceAdd, Nat.reduceMul, Nat.reduceSub, Nat.reduceLT, Nat.reduceLeDiff, Int.reduceToNat, Int.reduceLT, Int.reduceLE, Int.reduceEq, Int.reduceAdd, Int.reduceSub, Int.reduceMul, Int.toNat_natCast, reduceCtorEq, decide_true, decide_false, IntWalk.i64_in, IntWalk.u64_in, IntWalk.u8_in, a2, a3, a5, ho2, ho3]
termination_by n => SizeOf.sizeOf n
decreasing_by
  exact this
end Go.Proofs.YtmcbfbpdfbcakaaDoor.A
/- The tables of RegexBack, RegexParts, RegexAgain. -/
namespace Go.Proofs.YtmcbfbpdfbcakaaDoor.A
open Go
set_option maxRecDepth 20000
def RRr (args : List AV) (r : AV) : Prop := ∃ n, wideN n = true ∧ args = [nodeV n] ∧ r = .bool (rightN n)
theorem RRr_fn : Fun1 RRr := by
  rintro args r r' ⟨n, _, rfl, rfl⟩ ⟨n', _, h, rfl⟩
  simp only [List.cons.injEq, AV.agg.injEq, and_true] at h
  rw [cNd_inj h]
theorem RRr_ok (args r) (h : RRr args r) : Ok Tryd.prog 23 args r := by obtain ⟨n, hw, rfl, rfl⟩ := h; exact right_ok n hw
def RFw (args : List AV) (r : AV) : Prop := ∃ l, args = [slR l] ∧ r = .bool (fewR l)
theorem RFw_fn : Fun1 RFw := by
  rintro args r r' ⟨x, rfl, rfl⟩ ⟨x', h, rfl⟩
  simp only [List.cons.injEq, AV.sl.injEq, and_true] at h
  rw [cRws_inj h.2]
theorem RFw_ok (args r) (h : RFw args r) : Ok Tryd.prog 14 args r := by obtain ⟨x, rfl, rfl⟩ := h; exact few4_ok x
def ROn (args : List AV) (r : AV) : Prop := ∃ l, args = [slR l] ∧ r = nodeV (oneN l)
theorem ROn_fn : Fun1 ROn := by
  rintro args r r' ⟨x, rfl, rfl⟩ ⟨x', h, rfl⟩
  simp only [List.cons.injEq, AV.sl.injEq, and_true] at h
  rw [cRws_inj h.2]
theorem ROn_ok (args r) (h : ROn args r) : Ok Tryd.prog 16 args r := by obtain ⟨x, rfl, rfl⟩ := h; exact one_ok x
def RSize4 (args : List AV) (r : AV) : Prop := ∃ n, wideN n = true ∧ szN n ≤ 1000000000 ∧ args = [nodeV n] ∧ r = .int .i64 (szN n)
theorem RSize4_fn : Fun1 RSize4 := by
  rintro args r r' ⟨n, _, _, rfl, rfl⟩ ⟨n', _, _, h, rfl⟩
  simp only [List.cons.injEq, AV.agg.injEq, and_true] at h
  rw [cNd_inj h]
theorem RSize4_ok (args r) (h : RSize4 args r) : Ok Tryd.prog 26 args r := by obtain ⟨n, h1, h2, rfl, rfl⟩ := h; exact rsize_ok n h1 h2
theorem RSize4_dok (args r) (h : RSize4 args r) : Ok Tryd.prog 27 args r := by obtain ⟨n, h1, h2, rfl, rfl⟩ := h; exact dsize_ok n h1 h2
def RSame4 (args : List AV) (r : AV) : Prop := ∃ n, wideN n = true ∧ args = [nodeV n, nodeV n] ∧ r = .bool true
theorem RSame4_fn : Fun1 RSame4 := by
  rintro args r r' ⟨n, _, rfl, rfl⟩ ⟨n', _, h, rfl⟩
  rfl
theorem RSame4_ok (args r) (h : RSame4 args r) : Ok Tryd.prog 20 args r := by obtain ⟨n, h1, rfl, rfl⟩ := h; exact same4_ok n h1
noncomputable def XBk : FuncId → List AV → Option AV := tabLook [(13, tRel RKn4), (14, tRel RFw), (16, tRel ROn), (25, tRel RText), (15, tRel RText), (23, tRel RRr), (26, tRel RSize4), (27, tRel RSize4), (18, tRel RParse), (20, tRel RSame4), (17, tRel RW)]
theorem XBk_ok : CPSound Tryd.prog XBk := tab_cons (tab_cons (tab_cons (tab_cons (tab_cons (tab_cons (tab_cons (tab_cons (tab_cons (tab_cons (tab_cons (tab_nil _) (tRel_ok within2_ok)) (tRel_ok RSame4_ok)) (tRel_ok RParse_ok)) (tRel_ok RSize4_dok)) (tRel_ok RSize4_ok)) (tRel_ok RRr_ok)) (tRel_ok RText_dok)) (tRel_ok RText_ok)) (tRel_ok ROn_ok)) (tRel_ok RFw_ok)) (tRel_ok RKn4_ok)
theorem XBk_known : XBk 13 [] = some (.bool true) := tRel_eq (R := RKn4) RKn4_fn ⟨rfl, rfl⟩
theorem XBk_few (l) : XBk 14 [slR l] = some (.bool (fewR l)) := tRel_eq (R := RFw) RFw_fn ⟨_, rfl, rfl⟩
theorem XBk_one (l) : XBk 16 [slR l] = some (nodeV (oneN l)) := tRel_eq (R := ROn) ROn_fn ⟨_, rfl, rfl⟩
theorem XBk_text {n : Nd} (h1 : rightN n = true) (h2 : wideN n = true) (h3 : (textN 0 n).length ≤ 100000000) : XBk 25 [nodeV n] = some (.str (textN 0 n)) := tRel_eq (R := RText) RText_fn ⟨_, h1, h2, h3, rfl, rfl⟩
theorem XBk_dtext {n : Nd} (h1 : rightN n = true) (h2 : wideN n = true) (h3 : (textN 0 n).length ≤ 100000000) : XBk 15 [nodeV n] = some (.str (textN 0 n)) := tRel_eq (R := RText) RText_fn ⟨_, h1, h2, h3, rfl, rfl⟩
theorem XBk_right {n : Nd} (h2 : wideN n = true) : XBk 23 [nodeV n] = some (.bool (rightN n)) := tRel_eq (R := RRr) RRr_fn ⟨_, h2, rfl, rfl⟩
theorem XBk_size {n : Nd} (h2 : wideN n = true) (h3 : szN n ≤ 1000000000) : XBk 26 [nodeV n] = some (.int .i64 (szN n)) := tRel_eq (R := RSize4) RSize4_fn ⟨_, h2, h3, rfl, rfl⟩
theorem XBk_dsize {n : Nd} (h2 : wideN n = true) (h3 : szN n ≤ 1000000000) : XBk 27 [nodeV n] = some (.int .i64 (szN n)) := tRel_eq (R := RSize4) RSize4_fn ⟨_, h2, h3, rfl, rfl⟩
theorem XBk_parse (s : List UInt8) : XBk 18 [.str s] = some (.tup [nodeV (parseN s).1, .int .i64 (parseN s).2.1, .int .i64 (parseN s).2.2]) := tRel_eq (R := RParse) RParse_fn ⟨_, rfl, rfl⟩
theorem XBk_same {n : Nd} (h2 : wideN n = true) : XBk 20 [nodeV n, nodeV n] = some (.bool true) := tRel_eq (R := RSame4) RSame4_fn ⟨_, h2, rfl, rfl⟩
theorem XBk_within (a n : Int) (h1 : 0 < n) (h2 : n ≤ 1000000) : XBk 17 [.int .i64 a, .int .i64 n] = some (.int .i64 (a % n)) := rw_eq h1 h2
theorem parse_long {s : List UInt8} (h : 200 < s.length) : parseN s = (zeroN, 0, 4) := by rw [parseN, if_pos h]
end Go.Proofs.YtmcbfbpdfbcakaaDoor.A
/- What is read of any text is right, and not too deep. -/
namespace Go.Proofs.YtmcbfbpdfbcakaaDoor.A
open Go
set_option maxRecDepth 20000
theorem bd5_bd (x : Nd) : bd5 x ≤ bd x ∧ bd x ≤ bd5 x + 1 ∧ bd0 x ≤ bd5 x := by
  obtain ⟨k, s, lo, hi, l⟩ := x
  rw [bd5, bd, bd0]
  split
  · rename_i h; subst h; rw [if_neg (by decide)]; omega
  · split <;> omega
theorem bds_bound {c : Nat} : ∀ {l : List Nd}, (∀ x ∈ l, bd x ≤ c) → bds l ≤ c
  | [], _ => by rw [bds]; omega
  | x :: l, h => by
    have h1 := h x (by simp)
    have h2 := bds_bound (fun y hy => h y (List.mem_cons_of_mem _ hy))
    rw [bds]; omega
theorem bd5s_bound {c : Nat} : ∀ {l : List Nd}, (∀ x ∈ l, bd5 x ≤ c) → bd5s l ≤ c
  | [], _ => by rw [bd5s]; omega
  | x :: l, h => by
    have h1 := h x (by simp)
    have h2 := bd5s_bound (fun y hy => h y (List.mem_cons_of_mem _ hy))
    rw [bd5s]; omega
theorem manyN_two (k : Int) (x y : Nd) (l : List Nd) : manyN k (x :: y :: l) = .mk k 0 0 0 (x :: y :: l) := rfl
theorem right_many {k : Int} (hk : k = 4 ∨ k = 5) {l : List Nd} (hne : l ≠ []) (h : ∀ x ∈ l, rightN x = true) : rightN (manyN k l) = true := by
  match l, hne with
  | [x], _ => exact h x (by simp)
  | x :: y :: l, _ =>
    rw [manyN_two, rightN, rightNs_all, List.all_eq_true.2 h]
    rcases hk with rfl | rfl <;> simp [headN, countN]
theorem sz_many {k : Int} {l : List Nd} (hne : l ≠ []) : szN (manyN k l) ≤ 1 + szNs l := by
  match l, hne with
  | [x], _ => show szN x ≤ _; rw [szNs, szNs]; omega
  | x :: y :: l, _ => rw [manyN_two, szN]; omega
theorem bd5_many {J : List Nd} {c : Nat} (hne : J ≠ []) (h : ∀ x ∈ J, bd x ≤ c) : bd5 (manyN 4 J) ≤ c := by
  match J, hne with
  | [x], _ => have := h x (by simp); have := bd5_bd x; show bd5 x ≤ c; omega
  | x :: y :: l, _ => rw [manyN_two, bd5, if_pos rfl]; exact bds_bound h
theorem bd_union {U : List Nd} {c : Nat} (hne : U ≠ []) (h : ∀ x ∈ U, bd5 x ≤ c) : bd (manyN 5 U) ≤ c + 1 ∧ bd0 (manyN 5 U) ≤ c := by
  match U, hne with
  | [x], _ => have := h x (by simp); have := bd5_bd x; show bd x ≤ c + 1 ∧ bd0 x ≤ c; omega
  | x :: y :: l, _ =>
    have := bd5s_bound h
    rw [manyN_two, bd, bd0, if_neg (by decide), if_pos rfl, if_pos rfl]
    omega
def GoodN (k : Nat) (U J : List Nd) : Prop := (∀ x ∈ U, rightN x = true ∧ bd5 x + k ≤ 30) ∧ (∀ x ∈ J, rightN x = true ∧ bd x + k ≤ 30)
def GoodB : Lvs → Prop
  | [] => True
  | (U, J) :: B => GoodN B.length U J ∧ GoodB B
def szB : Lvs → Nat
  | [] => 0
  | (U, J) :: B => szNs U + szNs J + szB B
theorem plain_right {c : UInt8} (h : kindN (plainN c.toNat) ≠ 0) : rightN (plainN c.toNat) = true ∧ bd (plainN c.toNat) = 0 ∧ szN (plainN c.toNat) = 1 := by
  rcases plain_u8 h with rfl | rfl | rfl | rfl | rfl | rfl | rfl | rfl <;> exact ⟨by decide, by decide, by decide⟩
theorem byte_u8 (s : List UInt8) (a : Int) : ∃ c : UInt8, byteN s a = c.toNat := ⟨s.getD a.toNat 0, rfl⟩
theorem class_in (s : List UInt8) : ∀ (m : Nat) (a out : Int), 0 ≤ out → out ≤ 31 → 0 ≤ (classF s m a out).1 ∧ (classF s m a out).1 ≤ 31 ∧ ((classF s m a out).2.1 = true → 0 < (classF s m a out).1 ∧ (classF s m a out).2.2 < a + m)
  | 0, a, out, _, _ => by rw [classF]; exact ⟨by simp, by simp, by simp⟩
  | m + 1, a, out, h0, h1 => by
    rw [classF]
    split
    · refine ⟨h0, h1, fun h => ?_⟩
      simp only [Bool.and_eq_true, decide_eq_true_eq] at h
      exact ⟨h.1, by show a < a + ((m + 1 : Nat) : Int); omega⟩
    · rename_i hs
      have h2 := signN_lt (byteN s a)
      have h3 := orN_in h0 h1 (by omega : 0 ≤ signN (byteN s a)) h2
      have h4 := class_in s m (a + 1) _ h3.1 h3.2
      exact ⟨h4.1, h4.2.1, fun h => ⟨(h4.2.2 h).1, by have := (h4.2.2 h).2; omega⟩⟩
theorem digit_in (s : List UInt8) (a : Int) (h : ¬ digitN s a < 0) : 0 ≤ digitN s a ∧ digitN s a ≤ 9 := by
  refine ⟨by omega, ?_⟩
  unfold digitN at h ⊢
  split
  · omega
  · split <;> omega
theorem times_in (s : List UInt8) (a : Int) (h0 : 0 ≤ a) (h : ¬ 0 ≤ (timesN s a).2.2) : 0 ≤ (timesN s a).1 ∧ (timesN s a).1 ≤ (timesN s a).2.1 ∧ (timesN s a).2.1 ≤ 9 ∧ a + 5 ≤ s.length := by
  unfold timesN at h ⊢
  have hl : (0 : Int) ≤ s.length := Int.natCast_nonneg _
  split at h
  · exact absurd hl h
  rename_i c1
  split at h
  · exact absurd h0 h
  rename_i c2
  split at h
  · rename_i c; exact absurd c h
  rename_i c3
  split at h
  · exact absurd hl h
  rename_i c4
  split at h
  · exact absurd h0 h
  rename_i c5
  split at h
  · rename_i c; exact absurd c h
  rename_i c6
  split at h
  · exact absurd h0 h
  rename_i c7
  rw [if_neg c1, if_neg c2, if_neg c3, if_neg c4, if_neg c5, if_neg c6, if_neg c7]
  have d1 := digit_in s _ c2
  have d2 := digit_in s _ c5
  refine ⟨d1.1, by show digitN s (a + 1) ≤ digitN s (a + 3); omega, d2.2, ?_⟩
  have : ¬ (s.length : Int) ≤ a + 4 := fun h' => c6 (by rw [signAt, if_pos h']; omega)
  omega
theorem snoc_of {J : List Nd} (h : J ≠ []) : ∃ J' x, J = J' ++ [x] := ⟨J.dropLast, J.getLast h, (List.dropLast_concat_getLast h).symm⟩
theorem GoodN.snoc {k U J x} (h : GoodN k U J) (h1 : rightN x = true) (h2 : bd x + k ≤ 30) : GoodN k U (J ++ [x]) := ⟨h.1, fun y hy => by
  rcases List.mem_append.1 hy with hy | hy
  · exact h.2 y hy
  · rw [List.mem_singleton.1 hy]; exact ⟨h1, h2⟩⟩
theorem szNs_one (x : Nd) : szNs [x] = szN x := by rw [szNs, szNs]; omega
theorem GoodN.bar {k U J} (h : GoodN k U J) (hJ : J ≠ []) (hk : k ≤ 30) : ∀ x ∈ U ++ [manyN 4 J], rightN x = true ∧ bd5 x ≤ 30 - k := by
  intro x hx
  rcases List.mem_append.1 hx with hx | hx
  · have := h.1 x hx; exact ⟨this.1, by omega⟩
  · rw [List.mem_singleton.1 hx]
    exact ⟨right_many (.inl rfl) hJ (fun y hy => (h.2 y hy).1), bd5_many hJ (fun y hy => by have := (h.2 y hy).2; omega)⟩
def ReadOk (s : List UInt8) (R : Nd × Int × Int) : Prop := (R.2.2 = 0 → rightN R.1 = true ∧ bd0 R.1 ≤ 30 ∧ szN R.1 ≤ 2 * s.length + 2) ∧ (R.2.2 ≠ 0 → R.1 = zeroN)
theorem pGo_good (s : List UInt8) : ∀ (f : Nat) (a : Nat) (U J : List Nd) (B : Lvs), a ≤ s.length → GoodN B.length U J → GoodB B → B.length ≤ 30 → szNs U + szNs J + szB B ≤ 2 * a → ReadOk s (pGo s f a U J B)
  | 0, a, U, J, B, _, _, _, _, _ => by rw [pGo]; exact ⟨fun h => absurd h (show ¬ (3 : Int) = 0 by decide), fun _ => rfl⟩
  | f + 1, a, U, J, B, ha, hg, hB, hb, hsz => by
    have bad : ∀ (p e : Int), e ≠ 0 → ReadOk s (zeroN, p, e) := fun p e he => ⟨fun h => absurd h he, fun _ => rfl⟩
    obtain ⟨c, hc⟩ := byte_u8 s a
    rw [pGo, hc]
    split
    · split
      · exact bad _ _ (by decide)
      · rename_i h1 h2
        have hJ : J ≠ [] := fun e => h2 (.inr e)
        have hBn : B = [] := Classical.not_not.1 (fun e => h2 (.inl e))
        subst hBn
        have hbar := hg.bar hJ (by simp)
        have hne : U ++ [manyN 4 J] ≠ [] := by simp
        have h3 := bd_union (c := 30) hne (fun x hx => by have := (hbar x hx).2; simpa using this)
        have h4 := sz_many (k := 4) hJ
        have h5 := sz_many (k := 5) hne
        rw [szNs_app, szNs_one] at h5
        rw [szB] at hsz
        exact ⟨fun _ => ⟨right_many (.inr rfl) hne (fun x hx => (hbar x hx).1), h3.2, by show szN (manyN 5 (U ++ [manyN 4 J])) ≤ _; omega⟩, fun h => absurd rfl h⟩
    rename_i hlt
    have e1 : (a : Int) + 1 = ((a + 1 : Nat) : Int) := by omega
    split
    · rename_i hp
      obtain ⟨h1, h2, h3⟩ := plain_right hp
      rw [e1]
      exact pGo_good s f (a + 1) U _ B (by omega) (hg.snoc h1 (by omega)) hB hb (by rw [szNs_app, szNs_one]; omega)
    split
    · have h1 := class_in s (s.length - ((a : Int) + 1).toNat) (a + 1) 0 (by omega) (by omega)
      have h2 := classF_in s (s.length - ((a : Int) + 1).toNat) (a + 1) 0
      generalize classF s (s.length - ((a : Int) + 1).toNat) (a + 1) 0 = q at *
      obtain ⟨q1, q2, q3⟩ := q
      simp only at h1 h2 ⊢
      split
      · exact bad _ _ (by decide)
      · rename_i hq
        have hq' : q2 = true := by simpa using hq
        have h3 := h1.2.2 hq'
        obtain ⟨p, hp⟩ : ∃ p : Nat, q3 + 1 = p := ⟨(q3 + 1).toNat, by omega⟩
        rw [hp]
        refine pGo_good s f p U _ B (by omega) (hg.snoc (by rw [rightN, rightNs, head_set ⟨by omega, by omega⟩]; rfl) (by rw [bd, bds]; simp; exact hb)) hB hb (by rw [szNs_app, szNs_one, szN, szNs]; omega)
    split
    · split
      · exact bad _ _ (by decide)
      · rename_i hlen
        rw [e1]
        exact pGo_good s f (a + 1) [] [] ((U, J) :: B) (by omega) ⟨fun x hx => (by cases hx), fun x hx => (by cases hx)⟩ ⟨hg, hB⟩ (by rw [List.length_cons]; omega) (by rw [szB, szNs]; omega)
    split
    · exact bad _ _ (by decide)
    rename_i hJ
    obtain ⟨J', x, rfl⟩ := snoc_of hJ
    have hx := hg.2 x (by simp)
    have hg' : GoodN B.length U J' := ⟨hg.1, fun y hy => hg.2 y (List.mem_append_left _ hy)⟩
    rw [szNs_app, szNs_one] at hsz
    split
    · have h1 := times_in s a (by omega)
      generalize timesN s a = q at *
      obtain ⟨lo, hi, w⟩ := q
      simp only at h1 ⊢
      split
      · rename_i hw; exact bad _ _ (by decide)
      · rename_i hw
        obtain ⟨g1, g2, g3, g4⟩ := h1 hw
        rw [last_snoc, show (a : Int) + 5 = ((a + 5 : Nat) : Int) by omega]
        refine pGo_good s f (a + 5) U _ B (by omega) (hg'.snoc ?_ ?_) hB hb (by rw [szNs_app, szNs_one, szN, szNs_one]; omega)
        · rw [rightN, rightNs, rightNs, hx.1]
          simp [headN, countN]; omega
        · rw [bd, if_neg (by decide), if_neg (by decide), bds, bds]; omega
    split
    · rename_i h9 hk0
      rw [last_snoc, e1]
      have hk : afterN c.toNat = 6 ∨ afterN c.toNat = 7 ∨ afterN c.toNat = 8 := by
        unfold afterN at h9 hk0 ⊢
        repeat' split
        all_goals (first | omega | (simp_all))
      refine pGo_good s f (a + 1) U _ B (by omega) (hg'.snoc ?_ ?_) hB hb (by rw [szNs_app, szNs_one, szN, szNs_one]; omega)
      · rw [rightN, rightNs, rightNs, hx.1]
        rcases hk with e | e | e <;> rw [e] <;> rfl
      · rw [bd, if_neg (by omega), if_neg (by omega), bds, bds]; omega
    have hbar := hg.bar hJ hb
    have h4 := sz_many (k := 4) hJ
    rw [szNs_app, szNs_one] at h4
    split
    · rw [e1]
      exact pGo_good s f (a + 1) _ [] B (by omega) ⟨fun y hy => ⟨(hbar y hy).1, by have := (hbar y hy).2; omega⟩, fun x hx => (by cases hx)⟩ hB hb (by rw [szNs_app, szNs_one, szNs]; omega)
    split
    · rename_i hcl
      obtain ⟨⟨U0, J0⟩, B', rfl⟩ : ∃ p B', B = p :: B' := by
        cases B with
        | nil => exact absurd rfl hcl.2
        | cons p B' => exact ⟨p, B', rfl⟩
      have hne : U ++ [manyN 4 (J' ++ [x])] ≠ [] := by simp
      rw [List.length_cons] at hbar hb
      have h3 := bd_union hne (fun y hy => (hbar y hy).2)
      have h5 := sz_many (k := 5) hne
      rw [szNs_app, szNs_one] at h5
      rw [szB] at hsz
      rw [e1]
      show ReadOk s (pGo s f ((a + 1 : Nat) : Int) U0 (J0 ++ [manyN 5 (U ++ [manyN 4 (J' ++ [x])])]) B')
      exact pGo_good s f (a + 1) U0 _ B' (by omega) (hB.1.snoc (right_many (.inr rfl) hne (fun y hy => (hbar y hy).1)) (by omega)) hB.2 (by omega) (by rw [szNs_app, szNs_one]; omega)
    · exact bad _ _ (by decide)
theorem parse_good (s : List UInt8) : ReadOk s (parseN s) := by
  rw [parseN]
  split
  · exact ⟨fun h => absurd h (by decide), fun _ => rfl⟩
  · exact pGo_good s (s.length + 1) 0 [] [] [] (by omega) ⟨fun x hx => (by cases hx), fun x hx => (by cases hx)⟩ trivial (by simp) (by simp [szNs, szB])
mutual
theorem sz_wide : ∀ n : Nd, szN n ≤ 1000 → wideN n = true
  | .mk k s lo hi l, h => by
    rw [szN] at h
    have := szs_wide l (by omega)
    rw [wideN, Bool.and_eq_true, decide_eq_true_eq]
    exact ⟨by omega, this.2⟩
theorem szs_wide : ∀ l : List Nd, szNs l ≤ 1000 → l.length ≤ szNs l ∧ wideNs l = true
  | [], _ => ⟨by simp, by rw [wideNs]⟩
  | x :: l, h => by
    rw [szNs] at h
    have h1 := szN_pos x
    have h2 := szs_wide l (by omega)
    have h3 := sz_wide x (by omega)
    rw [szNs, wideNs, h3, h2.2]
    exact ⟨by rw [List.length_cons]; omega, rfl⟩
end
/-- What is read of a text without an error. -/
theorem parse_right {s : List UInt8} (h : (parseN s).2.2 = 0) : rightN (parseN s).1 = true ∧ wideN (parseN s).1 = true ∧ bd0 (parseN s).1 ≤ 30 ∧ (textN 0 (parseN s).1).length ≤ 9000 := by
  have hl : s.length ≤ 200 := by
    rw [parseN] at h
    split at h
    · exact absurd h (by decide)
    · omega
  obtain ⟨h1, h2, h3⟩ := (parse_good s).1 h
  have := text_len (parseN s).1 0 h1
  exact ⟨h1, sz_wide _ (by omega), h2, by omega⟩
end Go.Proofs.YtmcbfbpdfbcakaaDoor.A
/- Arguments that read are data: parts, fields; machines of one way. -/
namespace Go.Proofs.YtmcbfbpdfbcakaaDoor.A
open Go
set_option maxRecDepth 20000
theorem shaped_fields {P : Program} {d : Nat} {t : TypeId} {fs : Array Field} (hu : P.underlying t = some (.struct fs)) {xs : List AV} (h : Shaped P d t xs) : ∃ (d' : Nat) (parts : List (List AV)), xs = parts.flatten ∧ parts.length = fs.toList.length ∧ ∀ (i : Nat) (f : Field) (p : List AV), fs.toList[i]? = some f → parts[i]? = some p → Shaped P d' f.type p := by
  cases d with
  | zero => exact h.elim
  | succ d =>
    unfold Shaped at h
    rw [hu] at h
    obtain ⟨parts, h1, h2, h3⟩ := h
    exact ⟨d, parts, h1, by simpa using h2, fun i f p hf hp => h3 i f p (by simpa using hf) hp⟩
theorem shaped_slice {P : Program} {d : Nat} {t e : TypeId} (hu : P.underlying t = some (.slice e)) {xs : List AV} (h : Shaped P d t xs) : ∃ (d' : Nat) (parts : List (List AV)), xs = [.sl parts.length parts.flatten] ∧ parts.length ≤ maxLen ∧ ∀ p ∈ parts, Shaped P d' e p := by
  cases d with
  | zero => exact h.elim
  | succ d =>
    unfold Shaped at h
    rw [hu] at h
    obtain ⟨parts, h1, h2, h3⟩ := h
    exact ⟨d, parts, h1, h2, h3⟩
noncomputable def fieldsOf (t : TypeId) : Array Field := match Tryd.prog.underlying t with | some (.struct fs) => fs | _ => #[]
theorem shaped_bool {P : Program} {d : Nat} {t : TypeId} {xs : List AV} (hu : P.underlying t = some .bool) (h : Shaped P d t xs) : ∃ b, xs = [.bool b] := by
  cases d with
  | zero => exact h.elim
  | succ d =>
    unfold Shaped at h
    rw [hu] at h
    exact h
theorem shaped_arr {P : Program} {d : Nat} {t i : TypeId} {n : Nat} (hu : P.underlying t = some (.array n i)) (hi : P.underlying i = some (.int .i64)) {xs : List AV} (h : Shaped P d t xs) : ∃ l : List Int, l.length = n ∧ xs = cI l := by
  cases d with
  | zero => exact h.elim
  | succ d =>
    unfold Shaped at h
    rw [hu] at h
    obtain ⟨parts, rfl, hl, hp⟩ := h
    obtain ⟨ns, h3, h4⟩ := ints_of hi parts hp
    exact ⟨ns, by rw [← h3]; simpa using hl, h4⟩
theorem parts_I {n : Nat} : ∀ {parts : List (List AV)}, (∀ p ∈ parts, ∃ l : List Int, l.length = n ∧ p = cI l) → ∃ N : List Int, N.length = n * parts.length ∧ parts.flatten = cI N
  | [], _ => ⟨[], rfl, rfl⟩
  | p :: parts, h => by
    obtain ⟨l, h0, rfl⟩ := h p (List.mem_cons_self ..)
    obtain ⟨N, h1, h2⟩ := parts_I (fun q hq => h q (List.mem_cons_of_mem _ hq))
    exact ⟨l ++ N, by rw [List.length_append, h0, h1, List.length_cons, Nat.mul_succ, Nat.add_comm], by rw [cI_app, List.flatten_cons, h2]⟩
theorem parts_B : ∀ {parts : List (List AV)}, (∀ p ∈ parts, ∃ b, p = [AV.bool b]) → ∃ A : List Bool, A.length = parts.length ∧ parts.flatten = cB A
  | [], _ => ⟨[], rfl, rfl⟩
  | p :: parts, h => by
    obtain ⟨b, rfl⟩ := h p (List.mem_cons_self ..)
    obtain ⟨A, h1, h2⟩ := parts_B (fun q hq => h q (List.mem_cons_of_mem _ hq))
    exact ⟨b :: A, by simp [h1], by simp [cB, h2]⟩
end Go.Proofs.YtmcbfbpdfbcakaaDoor.A
/- Arguments that read are data: machines, raw expressions. -/
namespace Go.Proofs.YtmcbfbpdfbcakaaDoor.A
open Go
set_option maxRecDepth 20000
/-! ### a machine that came in -/
theorem shaped_three {P : Program} {d : Nat} {t i : TypeId} {fs : Array Field} (hu : P.underlying t = some (.struct fs)) (hf : fs.toList.map (·.type) = [i, i, i]) (hi : P.underlying i = some (.int .i64)) {xs : List AV} (h : Shaped P d t xs) : ∃ a b c, xs = [.int .i64 a, .int .i64 b, .int .i64 c] := by
  obtain ⟨d', parts, rfl, hl, hp⟩ := shaped_fields hu h
  have hl3 : fs.toList.length = 3 := by have := congrArg List.length hf; simpa using this
  match hfs : fs.toList, hl3 with
  | [f1, f2, f3], _ =>
    rw [hfs] at hl hp hf
    simp only [List.map_cons, List.map_nil, List.cons.injEq, and_true] at hf
    obtain ⟨e1, e2, e3⟩ := hf
    match parts, hl with
    | [p1, p2, p3], _ =>
      obtain ⟨a, rfl⟩ := shaped_int hi (e1 ▸ hp 0 f1 p1 rfl rfl)
      obtain ⟨b, rfl⟩ := shaped_int hi (e2 ▸ hp 1 f2 p2 rfl rfl)
      obtain ⟨c, rfl⟩ := shaped_int hi (e3 ▸ hp 2 f3 p3 rfl rfl)
      exact ⟨a, b, c, rfl⟩
theorem shaped_two {P : Program} {d : Nat} {t i : TypeId} (hu : P.underlying t = some (.array 2 i)) (hi : P.underlying i = some (.int .i64)) {xs : List AV} (h : Shaped P d t xs) : ∃ a b, xs = [.int .i64 a, .int .i64 b] := by
  cases d with
  | zero => exact h.elim
  | succ d =>
    unfold Shaped at h
    rw [hu] at h
    obtain ⟨parts, rfl, hl, hp⟩ := h
    match parts, hl with
    | [p1, p2], _ =>
      obtain ⟨a, rfl⟩ := shaped_int hi (hp p1 (by simp))
      obtain ⟨b, rfl⟩ := shaped_int hi (hp p2 (by simp))
      exact ⟨a, b, rfl⟩
theorem parts_S : ∀ {parts : List (List AV)}, (∀ p ∈ parts, ∃ a b c, p = [.int .i64 a, .int .i64 b, .int .i64 c]) → ∃ ss : List (Int × Int × Int), ss.length = parts.length ∧ parts.flatten = cS ss
  | [], _ => ⟨[], rfl, rfl⟩
  | p :: parts, h => by
    obtain ⟨a, b, c, rfl⟩ := h p (List.mem_cons_self ..)
    obtain ⟨ss, h1, h2⟩ := parts_S (fun q hq => h q (List.mem_cons_of_mem _ hq))
    exact ⟨(a, b, c) :: ss, by simp [h1], by simp [cS, h2]⟩
theorem parts_P : ∀ {parts : List (List AV)}, (∀ p ∈ parts, ∃ a b, p = [.int .i64 a, .int .i64 b]) → ∃ ss : List (Int × Int), ss.length = parts.length ∧ parts.flatten = cP ss
  | [], _ => ⟨[], rfl, rfl⟩
  | p :: parts, h => by
    obtain ⟨a, b, rfl⟩ := h p (List.mem_cons_self ..)
    obtain ⟨ss, h1, h2⟩ := parts_P (fun q hq => h q (List.mem_cons_of_mem _ hq))
    exact ⟨(a, b) :: ss, by simp [h1], by simp [cP, h2]⟩
/-! ### raw expressions that came in -/
theorem shaped_slice' {P : Program} {d : Nat} {t e : TypeId} (hu : P.underlying t = some (.slice e)) {xs : List AV} (h : Shaped P d t xs) : ∃ (d' : Nat) (parts : List (List AV)), d' < d ∧ xs = [.sl parts.length parts.flatten] ∧ parts.length ≤ maxLen ∧ ∀ p ∈ parts, Shaped P d' e p := by
  cases d with
  | zero => exact h.elim
  | succ d =>
    unfold Shaped at h
    rw [hu] at h
    obtain ⟨parts, h1, h2, h3⟩ := h
    exact ⟨d, parts, Nat.lt_succ_self d, h1, h2, h3⟩
theorem shaped_fields' {P : Program} {d : Nat} {t : TypeId} {fs : Array Field} (hu : P.underlying t = some (.struct fs)) {xs : List AV} (h : Shaped P d t xs) : ∃ (d' : Nat) (parts : List (List AV)), d' < d ∧ xs = parts.flatten ∧ parts.length = fs.toList.length ∧ ∀ (i : Nat) (f : Field) (p : List AV), fs.toList[i]? = some f → parts[i]? = some p → Shaped P d' f.type p := by
  cases d with
  | zero => exact h.elim
  | succ d =>
    unfold Shaped at h
    rw [hu] at h
    obtain ⟨parts, h1, h2, h3⟩ := h
    exact ⟨d, parts, Nat.lt_succ_self d, h1, by simpa using h2, fun i f p hf hp => h3 i f p (by simpa using hf) hp⟩
theorem parts_R : ∀ {parts : List (List AV)}, (∀ p ∈ parts, ∃ r, p = cRw r) → ∃ l : List Rw, l.length = parts.length ∧ parts.flatten = cRws l
  | [], _ => ⟨[], rfl, by rw [cRws_nil]; rfl⟩
  | p :: parts, h => by
    obtain ⟨r, rfl⟩ := h p (List.mem_cons_self ..)
    obtain ⟨l, h1, h2⟩ := parts_R (fun q hq => h q (List.mem_cons_of_mem _ hq))
    exact ⟨r :: l, by simp [h1], by rw [cRws_cons, List.flatten_cons, h2]⟩
theorem shaped_raw : ∀ (d : Nat) (xs : List AV), Shaped Tryd.prog d 56 xs → ∃ r, xs = cRw r := by
  have hu : Tryd.prog.underlying 56 = some (.struct (fieldsOf 56)) := by kernel_rfl
  have hi : Tryd.prog.underlying 3 = some (.int .i64) := by kernel_rfl
  have hf : (fieldsOf 56).toList.map (·.type) = [3, 3, 22] := by kernel_rfl
  have hsl : Tryd.prog.underlying 22 = some (.slice 56) := by kernel_rfl
  intro d
  induction d using Nat.strongRecOn with
  | ind d ih =>
    intro xs h
    obtain ⟨d', parts, hd, rfl, hl, hp⟩ := shaped_fields' hu h
    generalize fieldsOf 56 = fl at *
    have hl3 : fl.toList.length = 3 := by have := congrArg List.length hf; simpa using this
    match hfl : fl.toList, hl3 with
    | [f1, f2, f3], _ =>
      rw [hfl] at hl hp hf
      simp only [List.map_cons, List.map_nil, List.cons.injEq, and_true] at hf
      obtain ⟨e1, e2, e3⟩ := hf
      match parts, hl with
      | [p1, p2, p3], _ =>
        obtain ⟨a, rfl⟩ := shaped_int hi (e1 ▸ hp 0 f1 p1 rfl rfl)
        obtain ⟨b, rfl⟩ := shaped_int hi (e2 ▸ hp 1 f2 p2 rfl rfl)
        obtain ⟨d4, q4, hd4, rfl, _, h4⟩ := shaped_slice' hsl (e3 ▸ hp 2 f3 p3 rfl rfl)
        obtain ⟨l, s1, s2⟩ := parts_R (fun p hp => ih d4 (by omega) p (h4 p hp))
        exact ⟨.mk a b l, by rw [cRw_mk, slR, s1, s2.symm]; rfl⟩
theorem arg_raws {x : AV} (h : ArgOf Tryd.prog 22 x) : ∃ l, x = slR l := by
  have hsl : Tryd.prog.underlying 22 = some (.slice 56) := by kernel_rfl
  unfold ArgOf at h
  rw [hsl] at h
  obtain ⟨d, h⟩ := h
  obtain ⟨d4, q4, _, e, _, h4⟩ := shaped_slice' hsl h
  obtain ⟨l, s1, s2⟩ := parts_R (fun p hp => shaped_raw d4 p (h4 p hp))
  injection e with e _
  exact ⟨l, by rw [e, slR, s1, s2]⟩
end Go.Proofs.YtmcbfbpdfbcakaaDoor.A
namespace Go.Proofs.YtmcbfbpdfbcakaaDoor.A
open Go
set_option maxRecDepth 20000
theorem lookAgain (X) : lookedAt (EX md0 X) (fun _ => none) 1 Tryd.f9 = true := by kernel_rfl
abbrev finAg : WPost := fun u a o nx => (u = .normal ∨ u = .ret) ∧ wO (resultsL Tryd.prog a ⟨o, nx⟩ Tryd.f9.results.toList) (fun vs => view o vDepth (tup1 vs) = .bool true)
theorem again_tail (X : FuncId → List AV → Option AV) (s : List UInt8) (a : AAct) (o : Ob) (nx : Nat) (hnx : 1 ≤ nx) (a3 : a 3 = .str s) {N : Nd} {p e : Int} (hp : X 18 [.str s] = some (.tup [nodeV N, .int .i64 p, .int .i64 e]))
    (h0 : e ≠ 0 → N = zeroN) (h1 : e = 0 → ∃ t M q f, X 25 [nodeV N] = some (.str t) ∧ X 23 [nodeV N] = some (.bool true) ∧ X 18 [.str t] = some (.tup [nodeV M, .int .i64 q, .int .i64 f]) ∧ (t.length ≤ 200 → M = N ∧ f = 0 ∧ X 20 [nodeV N, nodeV N] = some (.bool true))) :
    WP (EX md0 X) noR 300 (fun _ => none) (pathC [1, 1, 1, 1] (Tryd.f9.body.getD .skip)) a o nx finAg := by
  simp only [Tryd.f9, Option.getD_some, pathC]
  by_cases he : e = 0
  · subst he
    obtain ⟨t, M, q, f, e1, e2, e3, e4⟩ := h1 rfl
    obtain ⟨k, se, lo, hi, l⟩ := N
    obtain ⟨k', se', lo', hi', l'⟩ := M
    by_cases hl : t.length ≤ 200
    · obtain ⟨e5, rfl, e6⟩ := e4 hl
      rw [e5] at e3
      simp only [nodeV, cNd_mk] at hp e1 e2 e3 e6
      simp (disch := omega) only [go_sem, ↓IntWalk.iteOmega, IntWalk.toNatUp, Nat.reduceEqDiff, Nat.reduceAdd, Nat.reduceMul, Nat.reduceSub, Nat.reduceLT, Nat.reduceLeDiff, Int.reduceToNat, Int.reduceLT, Int.reduceLE, Int.reduceEq, Int.reduceAdd, Int.reduceSub, Int.reduceMul, Int.toNat_natCast, reduceCtorEq, decide_true, decide_false, IntWalk.i64_in, IntWalk.u64_in, IntWalk.u8_in, a3, hp, e1, e2, e3, e6]
      refine ⟨.inr rfl, ?_⟩
      simp only [Tryd.f9]
      simp (disch := omega) only [go_sem, ↓IntWalk.iteOmega, IntWalk.toNatUp, Nat.reduceEqDiff, Nat.reduceAdd, Nat.reduceMul, Nat.reduceSub, Nat.reduceLT, Nat.reduceLeDiff, Int.reduceToNat, Int.reduceLT, Int.reduceLE, Int.reduceEq, Int.reduceAdd, Int.reduceSub, Int.reduceMul, Int.toNat_natCast, reduceCtorEq, decide_true, decide_false, IntWalk.i64_in, IntWalk.u64_in, IntWalk.u8_in]
    · simp only [nodeV, cNd_mk] at hp e1 e2 e3
      simp (disch := omega) only [go_sem, ↓IntWalk.iteOmega, IntWalk.toNatUp, Nat.reduceEqDiff, Nat.reduceAdd, Nat.reduceMul, Nat.reduceSub, Nat.reduceLT, Nat.reduceLeDiff, Int.reduceToNat, Int.reduceLT, Int.reduceLE, Int.reduceEq, Int.reduceAdd, Int.reduceSub, Int.reduceMul, Int.toNat_natCast, reduceCtorEq, decide_true, decide_false, IntWalk.i64_in, IntWalk.u64_in, IntWalk.u8_in, a3, hp, e1, e2, e3]
      refine ⟨.inr rfl, ?_⟩
      simp only [Tryd.f9]
      simp (disch := omega) only [go_sem, ↓IntWalk.iteOmega, IntWalk.toNatUp, Nat.reduceEqDiff, Nat.reduceAdd, Nat.reduceMul, Nat.reduceSub, Nat.reduceLT, Nat.reduceLeDiff, Int.reduceToNat, Int.reduceLT, Int.reduceLE, Int.reduceEq, Int.reduceAdd, Int.reduceSub, Int.reduceMul, Int.toNat_natCast, reduceCtorEq, decide_true, decide_false, IntWalk.i64_in, IntWalk.u64_in, IntWalk.u8_in]
  · rw [h0 he] at hp
    simp only [nodeV, cNd_mk, slN, cNds_nil, List.length_nil] at hp
    simp (disch := omega) only [go_sem, ↓IntWalk.iteOmega, IntWalk.toNatUp, Nat.reduceEqDiff, Nat.reduceAdd, Nat.reduceMul, Nat.reduceSub, Nat.reduceLT, Nat.reduceLeDiff, Int.reduceToNat, Int.reduceLT, Int.reduceLE, Int.reduceEq, Int.reduceAdd, Int.reduceSub, Int.reduceMul, Int.toNat_natCast, reduceCtorEq, decide_true, decide_false, IntWalk.i64_in, IntWalk.u64_in, IntWalk.u8_in, a3, hp, he]
    refine ⟨.inr rfl, ?_⟩
    simp only [Tryd.f9]
    simp (disch := omega) only [go_sem, ↓IntWalk.iteOmega, IntWalk.toNatUp, Nat.reduceEqDiff, Nat.reduceAdd, Nat.reduceMul, Nat.reduceSub, Nat.reduceLT, Nat.reduceLeDiff, Int.reduceToNat, Int.reduceLT, Int.reduceLE, Int.reduceEq, Int.reduceAdd, Int.reduceSub, Int.reduceMul, Int.toNat_natCast, reduceCtorEq, decide_true, decide_false, IntWalk.i64_in, IntWalk.u64_in, IntWalk.u8_in]
theorem again_ok (ns : List Int) : Ok Tryd.prog 9 [slI ns] (.bool true) := by
  refine ok_of_WP (E := EX md0 XBk) (cr := noR) XBk_ok (noR_ok _) mixed (k := 300) Tryd.func9 (lookAgain _) rfl ?_
  have hkn := XBk_known
  have hwi := XBk_within
  have htail := again_tail XBk
  obtain ⟨c, hc⟩ : ∃ c, c = pathC [1, 1, 1, 1] (Tryd.f9.body.getD .skip) := ⟨_, rfl⟩
  obtain ⟨c0, hc0⟩ : ∃ c0, c0 = pathC [0] (Tryd.f9.body.getD .skip) := ⟨_, rfl⟩
  have hb : Tryd.f9.body.getD .skip = .seq (pathC [0] (Tryd.f9.body.getD .skip)) (.seq (pathC [1, 0] (Tryd.f9.body.getD .skip)) (.seq (pathC [1, 1, 0] (Tryd.f9.body.getD .skip)) (.seq (pathC [1, 1, 1, 0] (Tryd.f9.body.getD .skip)) c))) := by rw [hc]; kernel_rfl
  rw [hb]
  rw [← hc] at htail
  clear hc hb
  have hparse : ∀ s, XBk 18 [.str s] = some (.tup [nodeV (parseN s).1, .int .i64 (parseN s).2.1, .int .i64 (parseN s).2.2]) := XBk_parse
  have hend : ∀ (s : List UInt8) (a : AAct) (o : Ob) (nx : Nat), 1 ≤ nx → a 3 = .str s → WP (EX md0 XBk) noR 300 (fun _ => none) c a o nx finAg := fun s a o nx hnx a3 => by
    refine htail s a o nx hnx a3 (hparse s) (parse_good s).2 (fun h => ?_)
    obtain ⟨h1, h2, h3, h4⟩ := parse_right h
    have e1 := XBk_text h1 h2 (by omega)
    have e2 := XBk_right h2
    rw [h1] at e2
    refine ⟨_, _, _, _, e1, e2, hparse _, fun hl => ?_⟩
    rw [parse_text h1 h3 hl]
    exact ⟨rfl, rfl, XBk_same h2⟩
  simp only [Tryd.f9, Option.getD_some, pathC]
  simp (disch := omega) only [go_sem, ↓IntWalk.iteOmega, IntWalk.toNatUp, Nat.reduceEqDiff, Nat.reduceAdd, Nat.reduceMul, Nat.reduceSub, Nat.reduceLT, Nat.reduceLeDiff, Int.reduceToNat, Int.reduceLT, Int.reduceLE, Int.reduceEq, Int.reduceAdd, Int.reduceSub, Int.reduceMul, Int.toNat_natCast, reduceCtorEq, decide_true, decide_false, IntWalk.i64_in, IntWalk.u64_in, IntWalk.u8_in, hkn]
  refine WP_loop (fun m a o nx => ∃ (i : Nat) (s : List UInt8), i ≤ ns.length ∧ i ≤ 25 ∧ m = 25 - i ∧ 1 ≤ nx ∧ a 0 = slI ns ∧ a 3 = .str s ∧ s.length ≤ 100 * i ∧ a 4 = .int .i64 i) 25 (by omega) ⟨0, [], by omega, by omega, rfl, by show 1 ≤ _; omega, by simp (disch := omega) only [go_sem, ↓IntWalk.iteOmega, IntWalk.toNatUp, Nat.reduceEqDiff, Nat.reduceAdd, Nat.reduceMul, Nat.reduceSub, Nat.reduceLT, Nat.reduceLeDiff, Int.reduceToNat, Int.reduceLT, Int.reduceLE, Int.reduceEq, Int.reduceAdd, Int.reduceSub, Int.reduceMul, Int.toNat_natCast, reduceCtorEq, decide_true, decide_false, IntWalk.i64_in, IntWalk.u64_in, IntWalk.u8_in], by simp (disch := omega) only [go_sem, ↓IntWalk.iteOmega, IntWalk.toNatUp, Nat.reduceEqDiff, Nat.reduceAdd, Nat.reduceMul, Nat.reduceSub, Nat.reduceLT, Nat.reduceLeDiff, Int.reduceToNat, Int.reduceLT, Int.reduceLE, Int.reduceEq, Int.reduceAdd, Int.reduceSub, Int.reduceMul, Int.toNat_natCast, reduceCtorEq, decide_true, decide_false, IntWalk.i64_in, IntWalk.u64_in, IntWalk.u8_in], by simp, by simp (disch := omega) only [go_sem, ↓IntWalk.iteOmega, IntWalk.toNatUp, Nat.reduceEqDiff, Nat.reduceAdd, Nat.reduceMul, Nat.reduceSub, Nat.reduceLT, Nat.reduceLeDiff, Int.reduceToNat, Int.reduceLT, Int.reduceLE, Int.reduceEq, Int.reduceAdd, Int.reduceSub, Int.reduceMul, Int.toNat_natCast, reduceCtorEq, decide_true, decide_false, IntWalk.i64_in, IntWalk.u64_in, IntWalk.u8_in]⟩ ?_
  rintro m a o nx ⟨i, s, hi, hi2, rfl, hnx, a0, a3, hs, a4⟩
  by_cases hlt : i < ns.length ∧ i < 25
  · obtain ⟨hlt, hlt2⟩ := hlt
    have hat := cI_get (s := 1) hlt
    have hw := hwi (ns.getD i 0) 15 (by omega) (by omega)
    have hw0 := Int.emod_nonneg (ns.getD i 0) (show (15 : Int) ≠ 0 by decide)
    have hw1 := Int.emod_lt_of_pos (ns.getD i 0) (show (0 : Int) < 15 by decide)
    generalize ns.getD i 0 = y at *
    generalize y % 15 = w at *
    have hc15 : w = 0 ∨ w = 1 ∨ w = 2 ∨ w = 3 ∨ w = 4 ∨ w = 5 ∨ w = 6 ∨ w = 7 ∨ w = 8 ∨ w = 9 ∨ w = 10 ∨ w = 11 ∨ w = 12 ∨ w = 13 ∨ w = 14 := by omega
    rcases hc15 with rfl | rfl | rfl | rfl | rfl | rfl | rfl | rfl | rfl | rfl | rfl | rfl | rfl | rfl | rfl
    all_goals
      simp (disch := omega) only [go_sem, ↓IntWalk.iteOmega, IntWalk.toNatUp, Nat.reduceEqDiff, Nat.reduceAdd, Nat.reduceMul, Nat.reduceSub, Nat.reduceLT, Nat.reduceLeDiff, Int.reduceToNat, Int.reduceLT, Int.reduceLE, Int.reduceEq, Int.reduceAdd, Int.reduceSub, Int.reduceMul, Int.toNat_natCast, reduceCtorEq, decide_true, decide_false, IntWalk.i64_in, IntWalk.u64_in, IntWalk.u8_in, a0, a3, a4, hat, hw]
      exact ⟨_, by omega, i + 1, _, by omega, by omega, rfl, rfl, by simp; omega, rfl⟩
  · by_cases h20 : i < ns.length
    · simp (disch := omega) only [go_sem, ↓IntWalk.iteOmega, IntWalk.toNatUp, Nat.reduceEqDiff, Nat.reduceAdd, Nat.reduceMul, Nat.reduceSub, Nat.reduceLT, Nat.reduceLeDiff, Int.reduceToNat, Int.reduceLT, Int.reduceLE, Int.reduceEq, Int.reduceAdd, Int.reduceSub, Int.reduceMul, Int.toNat_natCast, reduceCtorEq, decide_true, decide_false, IntWalk.i64_in, IntWalk.u64_in, IntWalk.u8_in, a0, a3, a4]
      exact hend s _ _ _ (by omega) (by simp (disch := omega) only [go_sem, ↓IntWalk.iteOmega, IntWalk.toNatUp, Nat.reduceEqDiff, Nat.reduceAdd, Nat.reduceMul, Nat.reduceSub, Nat.reduceLT, Nat.reduceLeDiff, Int.reduceToNat, Int.reduceLT, Int.reduceLE, Int.reduceEq, Int.reduceAdd, Int.reduceSub, Int.reduceMul, Int.toNat_natCast, reduceCtorEq, decide_true, decide_false, IntWalk.i64_in, IntWalk.u64_in, IntWalk.u8_in, a3])
    · simp (disch := omega) only [go_sem, ↓IntWalk.iteOmega, IntWalk.toNatUp, Nat.reduceEqDiff, Nat.reduceAdd, Nat.reduceMul, Nat.reduceSub, Nat.reduceLT, Nat.reduceLeDiff, Int.reduceToNat, Int.reduceLT, Int.reduceLE, Int.reduceEq, Int.reduceAdd, Int.reduceSub, Int.reduceMul, Int.toNat_natCast, reduceCtorEq, decide_true, decide_false, IntWalk.i64_in, IntWalk.u64_in, IntWalk.u8_in, a0, a3, a4]
      exact hend s _ _ _ (by omega) (by simp (disch := omega) only [go_sem, ↓IntWalk.iteOmega, IntWalk.toNatUp, Nat.reduceEqDiff, Nat.reduceAdd, Nat.reduceMul, Nat.reduceSub, Nat.reduceLT, Nat.reduceLeDiff, Int.reduceToNat, Int.reduceLT, Int.reduceLE, Int.reduceEq, Int.reduceAdd, Int.reduceSub, Int.reduceMul, Int.toNat_natCast, reduceCtorEq, decide_true, decide_false, IntWalk.i64_in, IntWalk.u64_in, IntWalk.u8_in, a3])
end Go.Proofs.YtmcbfbpdfbcakaaDoor.A

namespace Go.Proofs.YtmcbfbpdfbcakaaDoor
open Go Go.Proofs.YtmcbfbpdfbcakaaDoor.A
set_option maxRecDepth 100000 in
theorem regexAgain_lifted (os : Os) (started : os.Started) (H : Type) (enc : TypeId × Value → H) :
    ReturnsInHanded {} Tryd.checked os 9 .any (fun w args => (Rows.regexAgainSpec.pre enc Tryd.prog Tryd.f9 [] false w args ∧ laidMetH Tryd.prog laidL w) ∧ sizedMet enc Tryd.prog Tryd.f9 (OpenSpec.ofChange Rows.regexAgainSpec) false w args) (Rows.regexAgainSpec.post enc Tryd.prog Tryd.f9 false true false false) :=
  law_laid (C := Tryd.checked) (L := laidL) laidL_noh Tryd.own started (by kernel_rfl) Tryd.func9
    (ChangeSpec.witness_at (enc := enc) (C := Tryd.checked) (os := os) (X := fun w _ => laidMetH Tryd.prog laidL w) false (laidWorld os) #[.slice none 0 0] 8 rfl (by kernel_rfl) (by kernel_rfl) (by kernel_rfl) (by kernel_rfl) (by kernel_rfl) (laidWorld_met os _))
    Tryd.laidOut (ks := [23, 3]) (by kernel_rfl) (by kernel_rfl) (tb := 4) (by kernel_rfl) (by kernel_rfl) rfl
    (fun ds hds => by
      match ds, hds with
      | [_], _ => exact ⟨rfl, rfl, rfl⟩)
    laid_gl (fun xs hxs => by
      rw [show Tryd.f9.params.toList = [23] from rfl] at hxs
      match xs, hxs with
      | [x1], ⟨h1, _⟩ =>
        obtain ⟨n1, rfl, _⟩ := arg_ints (e := 3) (by kernel_rfl) (by kernel_rfl) h1
        exact again_ok n1)
theorem regexAgain_row_holds : Rows.RegexAgainSaid :=
  OpenClaim.holds_of_wide 9 Tryd.f9 rfl rfl rfl rfl rfl rfl rfl ⟨rfl, rfl, rfl, rfl, rfl⟩ rfl rfl rfl rfl rfl (by kernel_rfl) Tryd.func9 (by kernel_rfl)
    (of_decide_eq_true (by kernel_rfl)) (by unfold Func.isWrapper; first | (rw [if_pos (by decide +kernel)]; kernel_rfl) | (rw [if_neg (by decide +kernel)]; exact ⟨rfl, rfl⟩))
    (fun os started H enc _ => regexAgain_lifted os started H enc)
theorem regexAgain_card_holds : Rows.RegexAgainCardSaid :=
  Claim7.holds_tied_plain_at .later [] [.data, .data, .data] true (true, "252fabc33c00c899ba09f24c312bfa73cda626b39cff52bd3a4e30b2933ed510") false
    regexAgain_row_holds (fun _ h => by cases h) (by kernel_rfl) (fun _ h => by cases h) regexAgain_row_tie rfl ⟨rfl, rfl⟩ (by kernel_rfl) rfl
    (fun f fn hf hfn => by
      obtain rfl : f = 9 := (Option.some.inj ((show Tryd.prog.funcNamed "milestone/milestonelaw4.RegexAgain" = some 9 by kernel_rfl).symm.trans hf)).symm
      obtain rfl : fn = Tryd.f9 := (Option.some.inj (Tryd.func9.symm.trans hfn)).symm
      refine ⟨by kernel_rfl, fun j t ht => ?_⟩
      exact (wants_all (by kernel_rfl : (Tryd.f9.params.toList.all fun t => !Tryd.prog.wantsStandIn t) = true) ht))
    (by kernel_rfl)
end Go.Proofs.YtmcbfbpdfbcakaaDoor
