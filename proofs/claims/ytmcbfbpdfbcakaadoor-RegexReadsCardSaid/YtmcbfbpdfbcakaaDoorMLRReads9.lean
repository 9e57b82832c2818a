/- regex.Text: its contract. -/
import Derived.Test.YtmcbfbpdfbcakaaDoorMLRReads1
import Derived.Test.YtmcbfbpdfbcakaaDoorMLRReads2
import Derived.Test.YtmcbfbpdfbcakaaDoorMLRReads3
import Derived.Test.YtmcbfbpdfbcakaaDoorMLRReads4
import Derived.Test.YtmcbfbpdfbcakaaDoorMLRReads5
import Derived.Test.YtmcbfbpdfbcakaaDoorMLRReads6
import Derived.Test.YtmcbfbpdfbcakaaDoorMLRReads7
import Derived.Test.YtmcbfbpdfbcakaaDoorMLRReads8
set_option linter.unusedVariables false
set_option linter.unusedSimpArgs false
set_option linter.unnecessarySimpa false
namespace Go.Proofs.YtmcbfbpdfbcakaaDoor.A
open Go
set_option maxRecDepth 20000
/-! ### sets, digits -/
theorem rset_all : ((List.range 31).map fun q => (calls E4 1000).1 53 [.int .i64 ((q + 1 : Nat) : Int)]) = (List.range 31).map fun q => some (.str (setS (q + 1))) := by kernel_rfl
theorem rset_at {s : Nat} (h0 : 1 ≤ s) (h1 : s ≤ 31) : (calls E4 1000).1 53 [.int .i64 (s : Int)] = some (.str (setS s)) := by
  have := map_at rset_all (q := s - 1) (by omega)
  rwa [show s - 1 + 1 = s by omega] at this
theorem itoa_dig : ∀ d : Fin 10, Lib.itoa (d.1 : Int) = [dig d.1] := by decide +kernel
theorem itoa_at {d : Int} (h0 : 0 ≤ d) (h1 : d ≤ 9) : Lib.itoa d = [dig d.toNat] := by
  have := itoa_dig ⟨d.toNat, by omega⟩
  rwa [Int.toNat_of_nonneg h0] at this
/-! ### lengths -/
theorem join_mem_le {t : List UInt8} {l : List (List UInt8)} (h : t ∈ l) (sep : List UInt8) : t.length ≤ (Lib.join l sep).length := by
  induction l with
  | nil => cases h
  | cons u l ih =>
    cases l with
    | nil => rw [List.mem_singleton.1 h, join_one]; omega
    | cons v l =>
      rw [join_cons2, List.length_append, List.length_append]
      rcases List.mem_cons.1 h with rfl | h
      · omega
      · have := ih h; omega
theorem text_kid {k s lo hi w : Int} {l : List Nd} {x : Nd} (hr : rightN (.mk k s lo hi l) = true) (hx : x ∈ l) : (textN k x).length ≤ (textN w (.mk k s lo hi l)).length := by
  obtain ⟨_, hc⟩ := right_cases hr
  rcases hc with ⟨rfl, rfl, _⟩ | ⟨_, rfl, _⟩ | ⟨hk, _⟩ | ⟨hk, _, _, _, y, rfl⟩ | ⟨rfl, _, _, _, _, y, rfl⟩
  · cases hx
  · cases hx
  · rw [textN, if_neg (by omega), if_neg (by omega), if_neg (by omega), if_pos hk]
    have h1 : textN k x ∈ textNs k l := by rw [textNs_map]; exact List.mem_map.2 ⟨x, hx, rfl⟩
    have h2 := join_mem_le h1 (if k = 5 then [124] else [])
    unfold brkS
    split
    · simp; omega
    · exact h2
  · rw [textN, if_neg (by omega), if_neg (by omega), if_neg (by omega), if_neg (by omega), textNs]
    rw [List.mem_singleton.1 hx]
    simp
  · rw [textN, if_neg (by omega), if_neg (by omega), if_neg (by omega), if_neg (by omega), textNs]
    rw [List.mem_singleton.1 hx]
    simp
theorem lookText (X) : lookedAt (EX md0 X) (fun _ => none) 2 Tryd.f45 = true := by kernel_rfl
def finTx (t : List UInt8) : WPost := fun u a o nx => (u = .normal ∨ u = .ret) ∧ wO (resultsL Tryd.prog a ⟨o, nx⟩ Tryd.f45.results.toList) (fun vs => view o vDepth (tup1 vs) = .str t)
theorem text_leaf (k s : Int) (w : Int) (h : (k = 1 ∧ 1 ≤ s ∧ s ≤ 31) ∨ (k = 2 ∧ s = 0) ∨ (k = 3 ∧ s = 0)) (X : FuncId → List AV → Option AV) (hset : ∀ s : Nat, 1 ≤ s → s ≤ 31 → X 53 [.int .i64 s] = some (.str (setS s))) :
    WP (EX md0 X) noR 1002 (fun _ => none) (Tryd.f45.body.getD .skip) (begin_ [nodeV (.mk k s 0 0 []), .int .i64 w]) (fun _ => none) 0 (finTx (textN w (.mk k s 0 0 []))) := by
  simp only [Tryd.f45, Option.getD_some, nodeV, cNd_mk]
  rcases h with ⟨rfl, h0, h1⟩ | ⟨rfl, rfl⟩ | ⟨rfl, rfl⟩
  · have h2 := hset s.toNat (by omega) (by omega)
    rw [Int.toNat_of_nonneg (by omega)] at h2
    simp (disch := omega) only [go_sem, ↓IntWalk.iteOmega, IntWalk.toNatUp, Nat.reduceEqDiff, Nat.reduceAdd, Nat.reduceMul, Nat.reduceSub, Nat.reduceLT, Nat.reduceLeDiff, Int.reduceToNat, Int.reduceLT, Int.reduceLE, Int.reduceEq, Int.reduceAdd, Int.reduceSub, Int.reduceMul, Int.toNat_natCast, reduceCtorEq, decide_true, decide_false, IntWalk.i64_in, IntWalk.u64_in, IntWalk.u8_in, h2]
    refine ⟨.inr rfl, ?_⟩
    simp only [Tryd.f45]
    simp (disch := omega) only [go_sem, ↓IntWalk.iteOmega, IntWalk.toNatUp, Nat.reduceEqDiff, Nat.reduceAdd, Nat.reduceMul, Nat.reduceSub, Nat.reduceLT, Nat.reduceLeDiff, Int.reduceToNat, Int.reduceLT, Int.reduceLE, Int.reduceEq, Int.reduceAdd, Int.reduceSub, Int.reduceMul, Int.toNat_natCast, reduceCtorEq, decide_true, decide_false, IntWalk.i64_in, IntWalk.u64_in, IntWalk.u8_in]
    rw [textN, if_pos rfl]
  · simp (disch := omega) only [go_sem, ↓IntWalk.iteOmega, IntWalk.toNatUp, Nat.reduceEqDiff, Nat.reduceAdd, Nat.reduceMul, Nat.reduceSub, Nat.reduceLT, Nat.reduceLeDiff, Int.reduceToNat, Int.reduceLT, Int.reduceLE, Int.reduceEq, Int.reduceAdd, Int.reduceSub, Int.reduceMul, Int.toNat_natCast, reduceCtorEq, decide_true, decide_false, IntWalk.i64_in, IntWalk.u64_in, IntWalk.u8_in]
    refine ⟨.inr rfl, ?_⟩
    simp only [Tryd.f45]
    simp (disch := omega) only [go_sem, ↓IntWalk.iteOmega, IntWalk.toNatUp, Nat.reduceEqDiff, Nat.reduceAdd, Nat.reduceMul, Nat.reduceSub, Nat.reduceLT, Nat.reduceLeDiff, Int.reduceToNat, Int.reduceLT, Int.reduceLE, Int.reduceEq, Int.reduceAdd, Int.reduceSub, Int.reduceMul, Int.toNat_natCast, reduceCtorEq, decide_true, decide_false, IntWalk.i64_in, IntWalk.u64_in, IntWalk.u8_in]
    rw [textN, if_neg (by decide), if_pos rfl]
  · simp (disch := omega) only [go_sem, ↓IntWalk.iteOmega, IntWalk.toNatUp, Nat.reduceEqDiff, Nat.reduceAdd, Nat.reduceMul, Nat.reduceSub, Nat.reduceLT, Nat.reduceLeDiff, Int.reduceToNat, Int.reduceLT, Int.reduceLE, Int.reduceEq, Int.reduceAdd, Int.reduceSub, Int.reduceMul, Int.toNat_natCast, reduceCtorEq, decide_true, decide_false, IntWalk.i64_in, IntWalk.u64_in, IntWalk.u8_in]
    refine ⟨.inr rfl, ?_⟩
    simp only [Tryd.f45]
    simp (disch := omega) only [go_sem, ↓IntWalk.iteOmega, IntWalk.toNatUp, Nat.reduceEqDiff, Nat.reduceAdd, Nat.reduceMul, Nat.reduceSub, Nat.reduceLT, Nat.reduceLeDiff, Int.reduceToNat, Int.reduceLT, Int.reduceLE, Int.reduceEq, Int.reduceAdd, Int.reduceSub, Int.reduceMul, Int.toNat_natCast, reduceCtorEq, decide_true, decide_false, IntWalk.i64_in, IntWalk.u64_in, IntWalk.u8_in]
    rw [textN, if_neg (by decide), if_neg (by decide), if_pos rfl]
theorem text_post (k lo hi : Int) (x : Nd) (w : Int) (h : ((k = 6 ∨ k = 7 ∨ k = 8) ∧ lo = 0 ∧ hi = 0) ∨ (k = 9 ∧ 0 ≤ lo ∧ lo ≤ hi ∧ hi ≤ 9)) (hlen : (textN w (.mk k 0 lo hi [x])).length ≤ 100000000) (X : FuncId → List AV → Option AV) (hch : X 45 [nodeV x, .int .i64 k] = some (.str (textN k x)))
    (hit : ∀ d : Int, 0 ≤ d → d ≤ 9 → X 55 [.int .i64 d] = some (.str [dig d.toNat])) :
    WP (EX md0 X) noR 1002 (fun _ => none) (Tryd.f45.body.getD .skip) (begin_ [nodeV (.mk k 0 lo hi [x]), .int .i64 w]) (fun _ => none) 0 (finTx (textN w (.mk k 0 lo hi [x]))) := by
  have ht : textN w (.mk k 0 lo hi [x]) = textN k x ++ tailS k lo hi := by
    rw [textN, if_neg (by omega), if_neg (by omega), if_neg (by omega), if_neg (by omega), textNs]; rfl
  have hat : cNds [x] = cNd x ++ [] := by rw [cNds_one, List.append_nil]
  rw [ht] at hlen ⊢
  rw [List.length_append] at hlen
  simp only [nodeV] at hch
  simp only [Tryd.f45, Option.getD_some, nodeV, cNd_mk, slN, List.length_singleton, hat]
  generalize textN k x = t at *
  rcases h with ⟨rfl | rfl | rfl, rfl, rfl⟩ | ⟨rfl, h0, h1, h2⟩
  · simp (disch := omega) only [go_sem, ↓IntWalk.iteOmega, IntWalk.toNatUp, Nat.reduceEqDiff, Nat.reduceAdd, Nat.reduceMul, Nat.reduceSub, Nat.reduceLT, Nat.reduceLeDiff, Int.reduceToNat, Int.reduceLT, Int.reduceLE, Int.reduceEq, Int.reduceAdd, Int.reduceSub, Int.reduceMul, Int.toNat_natCast, reduceCtorEq, decide_true, decide_false, IntWalk.i64_in, IntWalk.u64_in, IntWalk.u8_in, hch]
    refine ⟨.inr rfl, ?_⟩
    simp only [Tryd.f45]
    simp (disch := omega) only [go_sem, ↓IntWalk.iteOmega, IntWalk.toNatUp, Nat.reduceEqDiff, Nat.reduceAdd, Nat.reduceMul, Nat.reduceSub, Nat.reduceLT, Nat.reduceLeDiff, Int.reduceToNat, Int.reduceLT, Int.reduceLE, Int.reduceEq, Int.reduceAdd, Int.reduceSub, Int.reduceMul, Int.toNat_natCast, reduceCtorEq, decide_true, decide_false, IntWalk.i64_in, IntWalk.u64_in, IntWalk.u8_in]
    rfl
  · simp (disch := omega) only [go_sem, ↓IntWalk.iteOmega, IntWalk.toNatUp, Nat.reduceEqDiff, Nat.reduceAdd, Nat.reduceMul, Nat.reduceSub, Nat.reduceLT, Nat.reduceLeDiff, Int.reduceToNat, Int.reduceLT, Int.reduceLE, Int.reduceEq, Int.reduceAdd, Int.reduceSub, Int.reduceMul, Int.toNat_natCast, reduceCtorEq, decide_true, decide_false, IntWalk.i64_in, IntWalk.u64_in, IntWalk.u8_in, hch]
    refine ⟨.inr rfl, ?_⟩
    simp only [Tryd.f45]
    simp (disch := omega) only [go_sem, ↓IntWalk.iteOmega, IntWalk.toNatUp, Nat.reduceEqDiff, Nat.reduceAdd, Nat.reduceMul, Nat.reduceSub, Nat.reduceLT, Nat.reduceLeDiff, Int.reduceToNat, Int.reduceLT, Int.reduceLE, Int.reduceEq, Int.reduceAdd, Int.reduceSub, Int.reduceMul, Int.toNat_natCast, reduceCtorEq, decide_true, decide_false, IntWalk.i64_in, IntWalk.u64_in, IntWalk.u8_in]
    rfl
  · simp (disch := omega) only [go_sem, ↓IntWalk.iteOmega, IntWalk.toNatUp, Nat.reduceEqDiff, Nat.reduceAdd, Nat.reduceMul, Nat.reduceSub, Nat.reduceLT, Nat.reduceLeDiff, Int.reduceToNat, Int.reduceLT, Int.reduceLE, Int.reduceEq, Int.reduceAdd, Int.reduceSub, Int.reduceMul, Int.toNat_natCast, reduceCtorEq, decide_true, decide_false, IntWalk.i64_in, IntWalk.u64_in, IntWalk.u8_in, hch]
    refine ⟨.inr rfl, ?_⟩
    simp only [Tryd.f45]
    simp (disch := omega) only [go_sem, ↓IntWalk.iteOmega, IntWalk.toNatUp, Nat.reduceEqDiff, Nat.reduceAdd, Nat.reduceMul, Nat.reduceSub, Nat.reduceLT, Nat.reduceLeDiff, Int.reduceToNat, Int.reduceLT, Int.reduceLE, Int.reduceEq, Int.reduceAdd, Int.reduceSub, Int.reduceMul, Int.toNat_natCast, reduceCtorEq, decide_true, decide_false, IntWalk.i64_in, IntWalk.u64_in, IntWalk.u8_in]
    rfl
  · have i1 := hit lo (by omega) (by omega)
    have i2 := hit hi (by omega) (by omega)
    simp (disch := omega) only [go_sem, ↓IntWalk.iteOmega, IntWalk.toNatUp, Nat.reduceEqDiff, Nat.reduceAdd, Nat.reduceMul, Nat.reduceSub, Nat.reduceLT, Nat.reduceLeDiff, Int.reduceToNat, Int.reduceLT, Int.reduceLE, Int.reduceEq, Int.reduceAdd, Int.reduceSub, Int.reduceMul, Int.toNat_natCast, reduceCtorEq, decide_true, decide_false, IntWalk.i64_in, IntWalk.u64_in, IntWalk.u8_in, hch, i1, i2]
    refine ⟨.inr rfl, ?_⟩
    simp only [Tryd.f45]
    simp (disch := omega) only [go_sem, ↓IntWalk.iteOmega, IntWalk.toNatUp, Nat.reduceEqDiff, Nat.reduceAdd, Nat.reduceMul, Nat.reduceSub, Nat.reduceLT, Nat.reduceLeDiff, Int.reduceToNat, Int.reduceLT, Int.reduceLE, Int.reduceEq, Int.reduceAdd, Int.reduceSub, Int.reduceMul, Int.toNat_natCast, reduceCtorEq, decide_true, decide_false, IntWalk.i64_in, IntWalk.u64_in, IntWalk.u8_in]
    simp [tailS]
abbrev strK (k : Int) (l : List Nd) : List AV := l.map fun x => AV.str (textN k x)
theorem text_loop (k w : Int) (l : List Nd) (hl : l.length ≤ 1000) (X : FuncId → List AV → Option AV) (hch : ∀ i, i < l.length → X 45 [nodeV (l.getD i default), .int .i64 k] = some (.str (textN k (l.getD i default)))) {Q : WPost} {a : AAct} {o : Ob} {nx : Nat} (hnx : 1 ≤ nx)
    (a1 : a 1 = .int .i64 w) (a2 : a 2 = .ptr (0, 2) (0, 2) 0) (a6 : a 6 = .nil) (a25 : a 25 = slN l) (a26 : a 26 = .int .i64 l.length) (a27 : a 27 = .int .i64 0) (ho : o (0, 2) = some (.row ⟨29, 1, (0, 2), false, true, [.int .i64 k, .int .i64 0, .int .i64 0, .int .i64 0, slN l]⟩))
    (hQ : ∀ a o nx v, 1 ≤ nx → a 1 = .int .i64 w → a 2 = .ptr (0, 2) (0, 2) 0 → a 6 = v → HS 9 1 37 o nx v l.length (strK k l) → o (0, 2) = some (.row ⟨29, 1, (0, 2), false, true, [.int .i64 k, .int .i64 0, .int .i64 0, .int .i64 0, slN l]⟩) → Q .normal a o nx) :
    WP (EX md0 X) noR 1002 (fun _ => none) (pathC [1, 1, 0, 1, 0, 1, 1, 1, 1, 1, 1, 1, 0, 1, 0, 1, 0] (Tryd.f45.body.getD .skip)) a o nx (blockQ 1 Q) := by
  simp only [Tryd.f45, Option.getD_some, pathC]
  refine WP_loop (fun m a o nx => ∃ (i : Nat) (v : AV), i ≤ l.length ∧ m = l.length - i ∧ 1 ≤ nx ∧ a 1 = .int .i64 w ∧ a 2 = .ptr (0, 2) (0, 2) 0 ∧ a 6 = v ∧ a 25 = slN l ∧ a 26 = .int .i64 l.length ∧ a 27 = .int .i64 i ∧ HS 9 1 37 o nx v i (strK k (l.take i)) ∧ o (0, 2) = some (.row ⟨29, 1, (0, 2), false, true, [.int .i64 k, .int .i64 0, .int .i64 0, .int .i64 0, slN l]⟩)) l.length (by omega) ⟨0, .nil, by omega, by omega, hnx, a1, a2, a6, a25, a26, a27, HS.nil, ho⟩ ?_
  clear a1 a2 a6 a25 a26 a27 ho hnx
  rintro m a o nx ⟨i, v, hi, rfl, hnx, a1, a2, a6, a25, a26, a27, hHS, ho⟩
  have hok := hHS.ok
  by_cases hlt : i < l.length
  · have hat := cNds_at hlt
    have hci := hch i hlt
    simp only [nodeV] at hci
    have hsn : strK k (l.take (i + 1)) = strK k (l.take i) ++ [.str (textN k (l.getD i default))] := by rw [strK, take_succ_getD hlt default, List.map_append]; rfl
    generalize l.getD i default = x at *
    rcases hHS with ⟨rfl, e2, e3⟩ | ⟨i1, g1, rfl, hi1, hrow, hlen⟩
    · simp (disch := omega) only [go_sem, ↓IntWalk.iteOmega, IntWalk.toNatUp, Nat.reduceEqDiff, Nat.reduceAdd, Nat.reduceMul, Nat.reduceSub, Nat.reduceLT, Nat.reduceLeDiff, Int.reduceToNat, Int.reduceLT, Int.reduceLE, Int.reduceEq, Int.reduceAdd, Int.reduceSub, Int.reduceMul, Int.toNat_natCast, reduceCtorEq, decide_true, decide_false, IntWalk.i64_in, IntWalk.u64_in, IntWalk.u8_in, a1, a2, a6, a25, a26, a27, ho, hat, hci]
      refine ⟨_, by omega, i + 1, _, by omega, rfl, rfl, rfl, ?_⟩
      rw [hsn]
      exact .inr ⟨nx + 1 + 1, _, by rw [e2], by omega, by simp [upd_app, e3], by rw [e3]; simp [e2]⟩
    · obtain ⟨cs, hcs⟩ : ∃ cs, cs = strK k (l.take i) := ⟨_, rfl⟩
      rw [← hcs] at hrow hlen hsn
      have htk : cs.take (i * 1) = cs := take_len hlen
      have htk' : cs.take i = cs := take_len (by omega)
      simp (disch := omega) only [go_sem, ↓IntWalk.iteOmega, IntWalk.toNatUp, Nat.reduceEqDiff, Nat.reduceAdd, Nat.reduceMul, Nat.reduceSub, Nat.reduceLT, Nat.reduceLeDiff, Int.reduceToNat, Int.reduceLT, Int.reduceLE, Int.reduceEq, Int.reduceAdd, Int.reduceSub, Int.reduceMul, Int.toNat_natCast, reduceCtorEq, decide_true, decide_false, IntWalk.i64_in, IntWalk.u64_in, IntWalk.u8_in, a1, a2, a6, a25, a26, a27, ho, hat, hci, hrow, hlen, htk, htk']
      refine ⟨_, by omega, i + 1, _, by omega, rfl, rfl, rfl, ?_⟩
      rw [hsn]
      exact .inr ⟨i1, _, rfl, by omega, by simp [upd_app], by rw [List.length_append, hlen]; simp⟩
  · have hie : i = l.length := by omega
    rw [hie, List.take_length] at hHS
    simp (disch := omega) only [go_sem, ↓IntWalk.iteOmega, IntWalk.toNatUp, Nat.reduceEqDiff, Nat.reduceAdd, Nat.reduceMul, Nat.reduceSub, Nat.reduceLT, Nat.reduceLeDiff, Int.reduceToNat, Int.reduceLT, Int.reduceLE, Int.reduceEq, Int.reduceAdd, Int.reduceSub, Int.reduceMul, Int.toNat_natCast, reduceCtorEq, decide_true, decide_false, IntWalk.i64_in, IntWalk.u64_in, IntWalk.u8_in, a1, a2, a6, a25, a26, a27, ho, hok]
    exact hQ _ _ _ v (by omega) (by simp (disch := omega) only [go_sem, ↓IntWalk.iteOmega, IntWalk.toNatUp, Nat.reduceEqDiff, Nat.reduceAdd, Nat.reduceMul, Nat.reduceSub, Nat.reduceLT, Nat.reduceLeDiff, Int.reduceToNat, Int.reduceLT, Int.reduceLE, Int.reduceEq, Int.reduceAdd, Int.reduceSub, Int.reduceMul, Int.toNat_natCast, reduceCtorEq, decide_true, decide_false, IntWalk.i64_in, IntWalk.u64_in, IntWalk.u8_in, a1]) (by simp (disch := omega) only [go_sem, ↓IntWalk.iteOmega, IntWalk.toNatUp, Nat.reduceEqDiff, Nat.reduceAdd, Nat.reduceMul, Nat.reduceSub, Nat.reduceLT, Nat.reduceLeDiff, Int.reduceToNat, Int.reduceLT, Int.reduceLE, Int.reduceEq, Int.reduceAdd, Int.reduceSub, Int.reduceMul, Int.toNat_natCast, reduceCtorEq, decide_true, decide_false, IntWalk.i64_in, IntWalk.u64_in, IntWalk.u8_in, a2]) (by simp (disch := omega) only [go_sem, ↓IntWalk.iteOmega, IntWalk.toNatUp, Nat.reduceEqDiff, Nat.reduceAdd, Nat.reduceMul, Nat.reduceSub, Nat.reduceLT, Nat.reduceLeDiff, Int.reduceToNat, Int.reduceLT, Int.reduceLE, Int.reduceEq, Int.reduceAdd, Int.reduceSub, Int.reduceMul, Int.toNat_natCast, reduceCtorEq, decide_true, decide_false, IntWalk.i64_in, IntWalk.u64_in, IntWalk.u8_in, a6]) (hHS.keep (fun _ _ => rfl) (by omega)) ho
theorem text_many (k w : Int) (l : List Nd) (hk : k = 4 ∨ k = 5) (h2 : 2 ≤ l.length) (hl : l.length ≤ 1000) (hlen : (textN w (.mk k 0 0 0 l)).length ≤ 100000000) (X : FuncId → List AV → Option AV) (hch : ∀ i, i < l.length → X 45 [nodeV (l.getD i default), .int .i64 k] = some (.str (textN k (l.getD i default))))
    (hjn : ∀ (xs : List (List UInt8)) (sep : List UInt8), xs ≠ [] → xs.length ≤ 1000000 → (Lib.join xs sep).length ≤ 100000000 → X 54 [.sl xs.length (xs.map .str), .str sep] = some (.str (Lib.join xs sep))) :
    WP (EX md0 X) noR 1002 (fun _ => none) (Tryd.f45.body.getD .skip) (begin_ [nodeV (.mk k 0 0 0 l), .int .i64 w]) (fun _ => none) 0 (finTx (textN w (.mk k 0 0 0 l))) := by
  have ht : textN w (.mk k 0 0 0 l) = brkS (decide (w ≠ 0 ∧ (k = 5 ∨ w ≠ 5))) (Lib.join (textNs k l) (if k = 5 then [124] else [])) := by
    rw [textN, if_neg (by omega), if_neg (by omega), if_neg (by omega), if_pos hk]
  have hjl : (Lib.join (textNs k l) (if k = 5 then [124] else [])).length ≤ 100000000 - 2 ∨ (Lib.join (textNs k l) (if k = 5 then [124] else [])).length ≤ 100000000 := by
    rw [ht, brkS] at hlen
    split at hlen
    · left; simp at hlen; omega
    · right; omega
  have hj := hjn (textNs k l) (if k = 5 then [124] else []) (by rw [textNs_map]; intro e; rw [List.map_eq_nil_iff] at e; rw [e] at h2; simp at h2) (by rw [textNs_map, List.length_map]; omega) (by omega)
  rw [textNs_map, List.length_map, List.map_map] at hj
  rw [ht, textNs_map]
  clear ht hjn
  have hq : ∀ (o : Ob) (v : AV) (nx : Nat), HS 9 1 37 o nx v l.length (strK k l) → view o 1012 v = .sl l.length (strK k l) := fun o v nx h => by
    rw [h.view 1011, strK, List.map_map]
    congr 1
  have hj : X 54 [.sl l.length (strK k l), .str (if k = 5 then [124] else [])] = some (.str (Lib.join (l.map (textN k)) (if k = 5 then [124] else []))) := hj
  rw [textNs_map] at hjl
  simp only [Tryd.f45, Option.getD_some, nodeV, cNd_mk]
  rcases hk with rfl | rfl
  · generalize Lib.join (l.map (textN 4)) (if (4 : Int) = 5 then [124] else []) = t at *
    have hj : X 54 [.sl l.length (strK 4 l), .str []] = some (.str t) := hj
    simp (disch := omega) only [go_sem, ↓IntWalk.iteOmega, IntWalk.toNatUp, Nat.reduceEqDiff, Nat.reduceAdd, Nat.reduceMul, Nat.reduceSub, Nat.reduceLT, Nat.reduceLeDiff, Int.reduceToNat, Int.reduceLT, Int.reduceLE, Int.reduceEq, Int.reduceAdd, Int.reduceSub, Int.reduceMul, Int.toNat_natCast, reduceCtorEq, decide_true, decide_false, IntWalk.i64_in, IntWalk.u64_in, IntWalk.u8_in]
    refine text_loop 4 w l hl X hch (by omega) rfl rfl rfl rfl rfl rfl rfl (fun a o nx v hnx a1 a2 a6 hHS ho => ?_)
    have hok := hHS.ok
    have hv := hq _ _ _ hHS
    by_cases hw0 : w = 0
    · subst hw0
      simp (disch := omega) only [go_sem, ↓IntWalk.iteOmega, IntWalk.toNatUp, Nat.reduceEqDiff, Nat.reduceAdd, Nat.reduceMul, Nat.reduceSub, Nat.reduceLT, Nat.reduceLeDiff, Int.reduceToNat, Int.reduceLT, Int.reduceLE, Int.reduceEq, Int.reduceAdd, Int.reduceSub, Int.reduceMul, Int.toNat_natCast, reduceCtorEq, decide_true, decide_false, IntWalk.i64_in, IntWalk.u64_in, IntWalk.u8_in, a1, a2, a6, ho, hok, hv, hj]
      refine ⟨.inr rfl, ?_⟩
      simp only [Tryd.f45]
      simp (disch := omega) only [go_sem, ↓IntWalk.iteOmega, IntWalk.toNatUp, Nat.reduceEqDiff, Nat.reduceAdd, Nat.reduceMul, Nat.reduceSub, Nat.reduceLT, Nat.reduceLeDiff, Int.reduceToNat, Int.reduceLT, Int.reduceLE, Int.reduceEq, Int.reduceAdd, Int.reduceSub, Int.reduceMul, Int.toNat_natCast, reduceCtorEq, decide_true, decide_false, IntWalk.i64_in, IntWalk.u64_in, IntWalk.u8_in]
      rfl
    · by_cases hw5 : w = 5
      · subst hw5
        simp (disch := omega) only [go_sem, ↓IntWalk.iteOmega, IntWalk.toNatUp, Nat.reduceEqDiff, Nat.reduceAdd, Nat.reduceMul, Nat.reduceSub, Nat.reduceLT, Nat.reduceLeDiff, Int.reduceToNat, Int.reduceLT, Int.reduceLE, Int.reduceEq, Int.reduceAdd, Int.reduceSub, Int.reduceMul, Int.toNat_natCast, reduceCtorEq, decide_true, decide_false, IntWalk.i64_in, IntWalk.u64_in, IntWalk.u8_in, a1, a2, a6, ho, hok, hv, hj]
        refine ⟨.inr rfl, ?_⟩
        simp only [Tryd.f45]
        simp (disch := omega) only [go_sem, ↓IntWalk.iteOmega, IntWalk.toNatUp, Nat.reduceEqDiff, Nat.reduceAdd, Nat.reduceMul, Nat.reduceSub, Nat.reduceLT, Nat.reduceLeDiff, Int.reduceToNat, Int.reduceLT, Int.reduceLE, Int.reduceEq, Int.reduceAdd, Int.reduceSub, Int.reduceMul, Int.toNat_natCast, reduceCtorEq, decide_true, decide_false, IntWalk.i64_in, IntWalk.u64_in, IntWalk.u8_in]
        rfl
      · simp (disch := omega) only [go_sem, ↓IntWalk.iteOmega, IntWalk.toNatUp, Nat.reduceEqDiff, Nat.reduceAdd, Nat.reduceMul, Nat.reduceSub, Nat.reduceLT, Nat.reduceLeDiff, Int.reduceToNat, Int.reduceLT, Int.reduceLE, Int.reduceEq, Int.reduceAdd, Int.reduceSub, Int.reduceMul, Int.toNat_natCast, reduceCtorEq, decide_true, decide_false, IntWalk.i64_in, IntWalk.u64_in, IntWalk.u8_in, a1, a2, a6, ho, hok, hv, hj, hw0, hw5]
        refine ⟨.inr rfl, ?_⟩
        simp only [Tryd.f45]
        simp (disch := omega) only [go_sem, ↓IntWalk.iteOmega, IntWalk.toNatUp, Nat.reduceEqDiff, Nat.reduceAdd, Nat.reduceMul, Nat.reduceSub, Nat.reduceLT, Nat.reduceLeDiff, Int.reduceToNat, Int.reduceLT, Int.reduceLE, Int.reduceEq, Int.reduceAdd, Int.reduceSub, Int.reduceMul, Int.toNat_natCast, reduceCtorEq, decide_true, decide_false, IntWalk.i64_in, IntWalk.u64_in, IntWalk.u8_in]
        simp [brkS, hw0, hw5]
  · generalize Lib.join (l.map (textN 5)) (if (5 : Int) = 5 then [124] else []) = t at *
    have hj : X 54 [.sl l.length (strK 5 l), .str [124]] = some (.str t) := hj
    simp (disch := omega) only [go_sem, ↓IntWalk.iteOmega, IntWalk.toNatUp, Nat.reduceEqDiff, Nat.reduceAdd, Nat.reduceMul, Nat.reduceSub, Nat.reduceLT, Nat.reduceLeDiff, Int.reduceToNat, Int.reduceLT, Int.reduceLE, Int.reduceEq, Int.reduceAdd, Int.reduceSub, Int.reduceMul, Int.toNat_natCast, reduceCtorEq, decide_true, decide_false, IntWalk.i64_in, IntWalk.u64_in, IntWalk.u8_in]
    refine text_loop 5 w l hl X hch (by omega) rfl rfl rfl rfl rfl rfl rfl (fun a o nx v hnx a1 a2 a6 hHS ho => ?_)
    have hok := hHS.ok
    have hv := hq _ _ _ hHS
    by_cases hw0 : w = 0
    · subst hw0
      simp (disch := omega) only [go_sem, ↓IntWalk.iteOmega, IntWalk.toNatUp, Nat.reduceEqDiff, Nat.reduceAdd, Nat.reduceMul, Nat.reduceSub, Nat.reduceLT, Nat.reduceLeDiff, Int.reduceToNat, Int.reduceLT, Int.reduceLE, Int.reduceEq, Int.reduceAdd, Int.reduceSub, Int.reduceMul, Int.toNat_natCast, reduceCtorEq, decide_true, decide_false, IntWalk.i64_in, IntWalk.u64_in, IntWalk.u8_in, a1, a2, a6, ho, hok, hv, hj]
      refine ⟨.inr rfl, ?_⟩
      simp only [Tryd.f45]
      simp (disch := omega) only [go_sem, ↓IntWalk.iteOmega, IntWalk.toNatUp, Nat.reduceEqDiff, Nat.reduceAdd, Nat.reduceMul, Nat.reduceSub, Nat.reduceLT, Nat.reduceLeDiff, Int.reduceToNat, Int.reduceLT, Int.reduceLE, Int.reduceEq, Int.reduceAdd, Int.reduceSub, Int.reduceMul, Int.toNat_natCast, reduceCtorEq, decide_true, decide_false, IntWalk.i64_in, IntWalk.u64_in, IntWalk.u8_in]
      rfl
    · simp (disch := omega) only [go_sem, ↓IntWalk.iteOmega, IntWalk.toNatUp, Nat.reduceEqDiff, Nat.reduceAdd, Nat.reduceMul, Nat.reduceSub, Nat.reduceLT, Nat.reduceLeDiff, Int.reduceToNat, Int.reduceLT, Int.reduceLE, Int.reduceEq, Int.reduceAdd, Int.reduceSub, Int.reduceMul, Int.toNat_natCast, reduceCtorEq, decide_true, decide_false, IntWalk.i64_in, IntWalk.u64_in, IntWalk.u8_in, a1, a2, a6, ho, hok, hv, hj, hw0]
      refine ⟨.inr rfl, ?_⟩
      simp only [Tryd.f45]
      simp (disch := omega) only [go_sem, ↓IntWalk.iteOmega, IntWalk.toNatUp, Nat.reduceEqDiff, Nat.reduceAdd, Nat.reduceMul, Nat.reduceSub, Nat.reduceLT, Nat.reduceLeDiff, Int.reduceToNat, Int.reduceLT, Int.reduceLE, Int.reduceEq, Int.reduceAdd, Int.reduceSub, Int.reduceMul, Int.toNat_natCast, reduceCtorEq, decide_true, decide_false, IntWalk.i64_in, IntWalk.u64_in, IntWalk.u8_in]
      simp [brkS, hw0]
/-! ### the contract -/
def RTx (k : Int) (l : List Nd) (args : List AV) (r : AV) : Prop := ∃ i, i < l.length ∧ args = [nodeV (l.getD i default), .int .i64 k] ∧ r = .str (textN k (l.getD i default))
theorem RTx_fn (k l) : Fun1 (RTx k l) := by
  rintro args r r' ⟨i, _, rfl, rfl⟩ ⟨j, _, h, rfl⟩
  simp only [List.cons.injEq, AV.agg.injEq, and_true] at h
  rw [cNd_inj h]
noncomputable def XTx (k : Int) (l : List Nd) : FuncId → List AV → Option AV := tabLook [(45, tRel (RTx k l)), (53, (calls E4 1000).1 53), (54, tRel RJn), (55, tRel RItoa)]
theorem XTx_ok (k : Int) (l : List Nd) (h : ∀ i, i < l.length → Ok Tryd.prog 45 [nodeV (l.getD i default), .int .i64 k] (.str (textN k (l.getD i default)))) : CPSound Tryd.prog (XTx k l) :=
  tab_cons (tab_cons (tab_cons (tab_cons (tab_nil _) (tRel_ok RItoa_ok)) (tRel_ok RJn_ok)) (fun args r h => ok_calls (E := E4) ext4_ok mixed h)) (tRel_ok (fun args r h' => by obtain ⟨i, hi, rfl, rfl⟩ := h'; exact h i hi))
theorem XTx_set (k l) (s : Nat) (h0 : 1 ≤ s) (h1 : s ≤ 31) : XTx k l 53 [.int .i64 s] = some (.str (setS s)) := rset_at h0 h1
theorem XTx_join (k l) (xs : List (List UInt8)) (sep : List UInt8) (h1 : xs ≠ []) (h2 : xs.length ≤ 1000000) (h3 : (Lib.join xs sep).length ≤ 100000000) : XTx k l 54 [.sl xs.length (xs.map .str), .str sep] = some (.str (Lib.join xs sep)) := tRel_eq RJn_fn ⟨xs, sep, h1, h2, h3, rfl, rfl⟩
theorem XTx_itoa (k l) (d : Int) (h0 : 0 ≤ d) (h1 : d ≤ 9) : XTx k l 55 [.int .i64 d] = some (.str [dig d.toNat]) := by
  rw [← itoa_at h0 h1]
  exact tRel_eq RItoa_fn ⟨d, by omega, by omega, rfl, rfl⟩
theorem XTx_text (k l) (i : Nat) (h : i < l.length) : XTx k l 45 [nodeV (l.getD i default), .int .i64 k] = some (.str (textN k (l.getD i default))) := tRel_eq (RTx_fn k l) ⟨i, h, rfl, rfl⟩
theorem text_ok : ∀ (n : Nd) (w : Int), rightN n = true → wideN n = true → (textN w n).length ≤ 100000000 → Ok Tryd.prog 45 [nodeV n, .int .i64 w] (.str (textN w n))
  | .mk k s lo hi l, w, hr, hw, hlen => by
    obtain ⟨hx, hc⟩ := right_cases hr
    rw [wideN, Bool.and_eq_true, decide_eq_true_eq] at hw
    have hok := XTx_ok k l (fun i hil => by
      have hm : l.getD i default ∈ l := by
        rw [List.getD_eq_getElem?_getD, List.getElem?_eq_getElem hil]
        exact List.getElem_mem hil
      have := size_at_lt hil k s lo hi
      exact text_ok (l.getD i default) k (hx _ hm) (wide_at hw.2 hil) (Nat.le_trans (text_kid hr hm) hlen))
    refine ok_of_WP (E := EX md0 (XTx k l)) (cr := noR) hok (noR_ok _) mixed (k := 1002) Tryd.func45 (lookText _) rfl ?_
    rcases hc with ⟨rfl, rfl, rfl, rfl, h0, h1⟩ | ⟨hk, rfl, rfl, rfl, rfl⟩ | ⟨hk, rfl, rfl, rfl, y1, y2, r, rfl⟩ | ⟨hk, rfl, rfl, rfl, x, rfl⟩ | ⟨rfl, rfl, h0, h1, h2, x, rfl⟩
    · exact text_leaf 1 s w (.inl ⟨rfl, h0, h1⟩) _ (XTx_set _ _)
    · exact text_leaf k 0 w (by omega) _ (XTx_set _ _)
    · exact text_many k w _ hk (by simp) hw.1 hlen _ (XTx_text _ _) (XTx_join _ _)
    · exact text_post k 0 0 x w (.inl ⟨hk, rfl, rfl⟩) hlen _ (XTx_text k [x] 0 (by simp)) (XTx_itoa _ _)
    · exact text_post 9 lo hi x w (.inr ⟨rfl, h0, h1, h2⟩) hlen _ (XTx_text 9 [x] 0 (by simp)) (XTx_itoa _ _)
termination_by n => SizeOf.sizeOf n
decreasing_by
  exact this
theorem lookTextT (X) : lookedAt (EX md0 X) (fun _ => none) 1 Tryd.f25 = true := by kernel_rfl
def RText (args : List AV) (r : AV) : Prop := ∃ n, rightN n = true ∧ wideN n = true ∧ (textN 0 n).length ≤ 100000000 ∧ args = [nodeV n] ∧ r = .str (textN 0 n)
theorem RText_fn : Fun1 RText := by
  rintro args r r' ⟨n, _, _, _, rfl, rfl⟩ ⟨n', _, _, _, h, rfl⟩
  simp only [List.cons.injEq, AV.agg.injEq, and_true] at h
  rw [cNd_inj h]
def RTxw (n : Nd) (args : List AV) (r : AV) : Prop := args = [nodeV n, .int .i64 0] ∧ r = .str (textN 0 n)
theorem RTxw_fn (n) : Fun1 (RTxw n) := by
  rintro args r r' ⟨_, rfl⟩ ⟨_, rfl⟩
  rfl
theorem RText_ok (args r) (h : RText args r) : Ok Tryd.prog 25 args r := by
  obtain ⟨n, h1, h2, h3, rfl, rfl⟩ := h
  refine ok_of_WP (E := EX md0 (tabLook [(45, tRel (RTxw n))])) (cr := noR) (tab_cons (tab_nil _) (tRel_ok (fun args r h' => by obtain ⟨rfl, rfl⟩ := h'; exact text_ok n 0 h1 h2 h3))) (noR_ok _) mixed (k := 1002) Tryd.func25 (lookTextT _) rfl ?_
  have hX : tabLook [(45, tRel (RTxw n))] 45 [nodeV n, .int .i64 0] = some (.str (textN 0 n)) := tRel_eq (RTxw_fn n) ⟨rfl, rfl⟩
  obtain ⟨k, s, lo, hi, l⟩ := n
  simp only [nodeV, cNd_mk] at hX
  simp only [Tryd.f25, Option.getD_some, nodeV, cNd_mk]
  simp (disch := omega) only [go_sem, ↓IntWalk.iteOmega, IntWalk.toNatUp, Nat.reduceEqDiff, Nat.reduceAdd, Nat.reduceMul, Nat.reduceSub, Nat.reduceLT, Nat.reduceLeDiff, Int.reduceToNat, Int.reduceLT, Int.reduceLE, Int.reduceEq, Int.reduceAdd, Int.reduceSub, Int.reduceMul, Int.toNat_natCast, reduceCtorEq, decide_true, decide_false, IntWalk.i64_in, IntWalk.u64_in, IntWalk.u8_in, hX]
end Go.Proofs.YtmcbfbpdfbcakaaDoor.A
/- The document's Text: its contract. -/
namespace Go.Proofs.YtmcbfbpdfbcakaaDoor.A
open Go
set_option maxRecDepth 20000
theorem dset_all : ((List.range 31).map fun q => (calls E4 1000).1 29 [.int .i64 ((q + 1 : Nat) : Int)]) = (List.range 31).map fun q => some (.str (setS (q + 1))) := by kernel_rfl
theorem dset_at {s : Nat} (h0 : 1 ≤ s) (h1 : s ≤ 31) : (calls E4 1000).1 29 [.int .i64 (s : Int)] = some (.str (setS s)) := by
  have := map_at dset_all (q := s - 1) (by omega)
  rwa [show s - 1 + 1 = s by omega] at this
theorem join_snoc (t : List UInt8) (sep : List UInt8) : ∀ l : List (List UInt8), Lib.join (l ++ [t]) sep = if l = [] then t else Lib.join l sep ++ sep ++ t
  | [] => by rw [List.nil_append, join_one, if_pos rfl]
  | [u] => by rw [if_neg (by simp), List.singleton_append, join_cons2, join_one, join_one]; simp
  | u :: v :: l => by
    have ih := join_snoc t sep (v :: l)
    rw [if_neg (by simp)] at ih ⊢
    have e : u :: v :: l ++ [t] = u :: v :: (l ++ [t]) := rfl
    rw [e, join_cons2, ← List.cons_append, ih, join_cons2]
    simp
/-- A part's text is the whole one, in brackets where it must be. -/
theorem text_brk {k : Int} (hk : k ≠ 0) (x : Nd) : textN k x = brkS (decide (kindN x = 5 ∨ (kindN x = 4 ∧ k ≠ 5))) (textN 0 x) := by
  obtain ⟨q, s, lo, hi, l⟩ := x
  have hq : kindN (.mk q s lo hi l) = q := rfl
  rw [hq, textN, textN]
  by_cases h1 : q = 1
  · subst h1; rw [if_pos rfl, if_pos rfl, decide_eq_false (by omega)]; rfl
  by_cases h2 : q = 2
  · subst h2; rw [if_neg h1, if_neg h1, if_pos rfl, if_pos rfl, decide_eq_false (by omega)]; rfl
  by_cases h3 : q = 3
  · subst h3; rw [if_neg h1, if_neg h1, if_neg h2, if_neg h2, if_pos rfl, if_pos rfl, decide_eq_false (by omega)]; rfl
  rw [if_neg h1, if_neg h1, if_neg h2, if_neg h2, if_neg h3, if_neg h3]
  by_cases h4 : q = 4 ∨ q = 5
  · rw [if_pos h4, if_pos h4]
    have e0 : decide ((0 : Int) ≠ 0 ∧ (q = 5 ∨ (0 : Int) ≠ 5)) = false := rfl
    rw [e0]
    have e1 : decide (k ≠ 0 ∧ (q = 5 ∨ k ≠ 5)) = decide (q = 5 ∨ (q = 4 ∧ k ≠ 5)) := by rw [Bool.eq_iff_iff]; simp only [decide_eq_true_eq]; omega
    rw [e1]
    rfl
  · rw [if_neg h4, if_neg h4, decide_eq_false (by omega)]
    rfl
theorem lookBr (X) : lookedAt (EX md0 X) (fun _ => none) 2 Tryd.f30 = true := by kernel_rfl
def RTx0 (x : Nd) (args : List AV) (r : AV) : Prop := args = [nodeV x] ∧ r = .str (textN 0 x)
theorem RTx0_fn (x) : Fun1 (RTx0 x) := by
  rintro args r r' ⟨_, rfl⟩ ⟨_, rfl⟩
  rfl
theorem bracketed_ok (k : Int) (x : Nd) (hk : k ≠ 0) (hl : (textN 0 x).length ≤ 100000000) (h : Ok Tryd.prog 15 [nodeV x] (.str (textN 0 x))) : Ok Tryd.prog 30 [.int .i64 k, nodeV x] (.str (textN k x)) := by
  refine ok_of_WP (E := EX md0 (tabLook [(15, tRel (RTx0 x))])) (cr := noR) (tab_cons (tab_nil _) (tRel_ok (fun args r h' => by obtain ⟨rfl, rfl⟩ := h'; exact h))) (noR_ok _) mixed (k := 10) Tryd.func30 (lookBr _) rfl ?_
  have hX : tabLook [(15, tRel (RTx0 x))] 15 [nodeV x] = some (.str (textN 0 x)) := tRel_eq (RTx0_fn x) ⟨rfl, rfl⟩
  rw [text_brk hk]
  generalize textN 0 x = t at *
  obtain ⟨q, s, lo, hi, l⟩ := x
  have hq : kindN (.mk q s lo hi l) = q := rfl
  rw [hq]
  simp only [nodeV, cNd_mk] at hX
  simp only [Tryd.f30, Option.getD_some, nodeV, cNd_mk]
  by_cases h5 : q = 5
  · subst h5
    rw [decide_eq_true (.inl rfl)]
    simp (disch := omega) only [go_sem, ↓IntWalk.iteOmega, IntWalk.toNatUp, Nat.reduceEqDiff, Nat.reduceAdd, Nat.reduceMul, Nat.reduceSub, Nat.reduceLT, Nat.reduceLeDiff, Int.reduceToNat, Int.reduceLT, Int.reduceLE, Int.reduceEq, Int.reduceAdd, Int.reduceSub, Int.reduceMul, Int.toNat_natCast, reduceCtorEq, decide_true, decide_false, IntWalk.i64_in, IntWalk.u64_in, IntWalk.u8_in, hX]
    simp [brkS]
  · by_cases h4 : q = 4
    · subst h4
      by_cases hk5 : k = 5
      · subst hk5
        rw [decide_eq_false (by omega)]
        simp (disch := omega) only [go_sem, ↓IntWalk.iteOmega, IntWalk.toNatUp, Nat.reduceEqDiff, Nat.reduceAdd, Nat.reduceMul, Nat.reduceSub, Nat.reduceLT, Nat.reduceLeDiff, Int.reduceToNat, Int.reduceLT, Int.reduceLE, Int.reduceEq, Int.reduceAdd, Int.reduceSub, Int.reduceMul, Int.toNat_natCast, reduceCtorEq, decide_true, decide_false, IntWalk.i64_in, IntWalk.u64_in, IntWalk.u8_in, hX]
        rfl
      · rw [decide_eq_true (by omega)]
        simp (disch := omega) only [go_sem, ↓IntWalk.iteOmega, IntWalk.toNatUp, Nat.reduceEqDiff, Nat.reduceAdd, Nat.reduceMul, Nat.reduceSub, Nat.reduceLT, Nat.reduceLeDiff, Int.reduceToNat, Int.reduceLT, Int.reduceLE, Int.reduceEq, Int.reduceAdd, Int.reduceSub, Int.reduceMul, Int.toNat_natCast, reduceCtorEq, decide_true, decide_false, IntWalk.i64_in, IntWalk.u64_in, IntWalk.u8_in, hX, hk5]
        simp [brkS]
    · rw [decide_eq_false (by omega)]
      simp (disch := omega) only [go_sem, ↓IntWalk.iteOmega, IntWalk.toNatUp, Nat.reduceEqDiff, Nat.reduceAdd, Nat.reduceMul, Nat.reduceSub, Nat.reduceLT, Nat.reduceLeDiff, Int.reduceToNat, Int.reduceLT, Int.reduceLE, Int.reduceEq, Int.reduceAdd, Int.reduceSub, Int.reduceMul, Int.toNat_natCast, reduceCtorEq, decide_true, decide_false, IntWalk.i64_in, IntWalk.u64_in, IntWalk.u8_in, hX, h5, h4]
      rfl
theorem lookDText (X) : lookedAt (EX md0 X) (fun _ => none) 1 Tryd.f15 = true := by kernel_rfl
def finDT (t : List UInt8) : WPost := fun u a o nx => (u = .normal ∨ u = .ret) ∧ wO (resultsL Tryd.prog a ⟨o, nx⟩ Tryd.f15.results.toList) (fun vs => view o vDepth (tup1 vs) = .str t)
theorem dtext_leaf (k s : Int) (h : (k = 1 ∧ 1 ≤ s ∧ s ≤ 31) ∨ (k = 2 ∧ s = 0) ∨ (k = 3 ∧ s = 0)) (X : FuncId → List AV → Option AV) (hset : ∀ s : Nat, 1 ≤ s → s ≤ 31 → X 29 [.int .i64 s] = some (.str (setS s))) :
    WP (EX md0 X) noR 1002 (fun _ => none) (Tryd.f15.body.getD .skip) (begin_ [nodeV (.mk k s 0 0 [])]) (fun _ => none) 0 (finDT (textN 0 (.mk k s 0 0 []))) := by
  simp only [Tryd.f15, Option.getD_some, nodeV, cNd_mk]
  rcases h with ⟨rfl, h0, h1⟩ | ⟨rfl, rfl⟩ | ⟨rfl, rfl⟩
  · have h2 := hset s.toNat (by omega) (by omega)
    rw [Int.toNat_of_nonneg (by omega)] at h2
    simp (disch := omega) only [go_sem, ↓IntWalk.iteOmega, IntWalk.toNatUp, Nat.reduceEqDiff, Nat.reduceAdd, Nat.reduceMul, Nat.reduceSub, Nat.reduceLT, Nat.reduceLeDiff, Int.reduceToNat, Int.reduceLT, Int.reduceLE, Int.reduceEq, Int.reduceAdd, Int.reduceSub, Int.reduceMul, Int.toNat_natCast, reduceCtorEq, decide_true, decide_false, IntWalk.i64_in, IntWalk.u64_in, IntWalk.u8_in, h2]
    refine ⟨.inr rfl, ?_⟩
    simp only [Tryd.f15]
    simp (disch := omega) only [go_sem, ↓IntWalk.iteOmega, IntWalk.toNatUp, Nat.reduceEqDiff, Nat.reduceAdd, Nat.reduceMul, Nat.reduceSub, Nat.reduceLT, Nat.reduceLeDiff, Int.reduceToNat, Int.reduceLT, Int.reduceLE, Int.reduceEq, Int.reduceAdd, Int.reduceSub, Int.reduceMul, Int.toNat_natCast, reduceCtorEq, decide_true, decide_false, IntWalk.i64_in, IntWalk.u64_in, IntWalk.u8_in]
    rw [textN, if_pos rfl]
  · simp (disch := omega) only [go_sem, ↓IntWalk.iteOmega, IntWalk.toNatUp, Nat.reduceEqDiff, Nat.reduceAdd, Nat.reduceMul, Nat.reduceSub, Nat.reduceLT, Nat.reduceLeDiff, Int.reduceToNat, Int.reduceLT, Int.reduceLE, Int.reduceEq, Int.reduceAdd, Int.reduceSub, Int.reduceMul, Int.toNat_natCast, reduceCtorEq, decide_true, decide_false, IntWalk.i64_in, IntWalk.u64_in, IntWalk.u8_in]
    refine ⟨.inr rfl, ?_⟩
    simp only [Tryd.f15]
    simp (disch := omega) only [go_sem, ↓IntWalk.iteOmega, IntWalk.toNatUp, Nat.reduceEqDiff, Nat.reduceAdd, Nat.reduceMul, Nat.reduceSub, Nat.reduceLT, Nat.reduceLeDiff, Int.reduceToNat, Int.reduceLT, Int.reduceLE, Int.reduceEq, Int.reduceAdd, Int.reduceSub, Int.reduceMul, Int.toNat_natCast, reduceCtorEq, decide_true, decide_false, IntWalk.i64_in, IntWalk.u64_in, IntWalk.u8_in]
    rw [textN, if_neg (by decide), if_pos rfl]
  · simp (disch := omega) only [go_sem, ↓IntWalk.iteOmega, IntWalk.toNatUp, Nat.reduceEqDiff, Nat.reduceAdd, Nat.reduceMul, Nat.reduceSub, Nat.reduceLT, Nat.reduceLeDiff, Int.reduceToNat, Int.reduceLT, Int.reduceLE, Int.reduceEq, Int.reduceAdd, Int.reduceSub, Int.reduceMul, Int.toNat_natCast, reduceCtorEq, decide_true, decide_false, IntWalk.i64_in, IntWalk.u64_in, IntWalk.u8_in]
    refine ⟨.inr rfl, ?_⟩
    simp only [Tryd.f15]
    simp (disch := omega) only [go_sem, ↓IntWalk.iteOmega, IntWalk.toNatUp, Nat.reduceEqDiff, Nat.reduceAdd, Nat.reduceMul, Nat.reduceSub, Nat.reduceLT, Nat.reduceLeDiff, Int.reduceToNat, Int.reduceLT, Int.reduceLE, Int.reduceEq, Int.reduceAdd, Int.reduceSub, Int.reduceMul, Int.toNat_natCast, reduceCtorEq, decide_true, decide_false, IntWalk.i64_in, IntWalk.u64_in, IntWalk.u8_in]
    rw [textN, if_neg (by decide), if_neg (by decide), if_pos rfl]
def sepN (k : Int) : List UInt8 := if k = 5 then [124] else []
theorem join_take_le (l : List (List UInt8)) (sep : List UInt8) (i : Nat) : (Lib.join (l.take i) sep).length ≤ (Lib.join l sep).length := by
  rcases Nat.lt_or_ge i l.length with h | h
  · have : ∀ (a b : List (List UInt8)), (Lib.join a sep).length ≤ (Lib.join (a ++ b) sep).length := by
      intro a b
      induction a with
      | nil => simp [Lib.join, List.intercalate]
      | cons x a ih =>
        cases a with
        | nil =>
          cases b with
          | nil => exact Nat.le_refl _
          | cons y b => rw [List.singleton_append, join_cons2, join_one, List.length_append]; omega
        | cons y a =>
          have e : x :: y :: a ++ b = x :: y :: (a ++ b) := rfl
          rw [e, join_cons2, join_cons2, List.length_append, List.length_append, List.length_append, List.length_append]
          rw [List.cons_append] at ih
          omega
    have h2 := this (l.take i) (l.drop i)
    rwa [List.take_append_drop] at h2
  · rw [List.take_of_length_le h]; omega
theorem dtext_loop (k lo hi : Int) (l : List Nd) (hk : 4 ≤ k) (hl : l.length ≤ 1000) (hlen : (Lib.join (textNs k l) (sepN k)).length ≤ 100000000) (X : FuncId → List AV → Option AV) (hch : ∀ i, i < l.length → X 30 [.int .i64 k, nodeV (l.getD i default)] = some (.str (textN k (l.getD i default)))) {Q : WPost} {a : AAct} {o : Ob} {nx : Nat} (hnx : 1 ≤ nx)
    (a1 : a 1 = .ptr (0, 1) (0, 1) 0) (a3 : a 3 = .str []) (a4 : a 4 = .int .i64 0) (ho : o (0, 1) = some (.row ⟨29, 1, (0, 1), false, true, [.int .i64 k, .int .i64 0, .int .i64 lo, .int .i64 hi, slN l]⟩))
    (hQ : ∀ a o nx, 1 ≤ nx → a 1 = .ptr (0, 1) (0, 1) 0 → a 3 = .str (Lib.join (textNs k l) (sepN k)) → o (0, 1) = some (.row ⟨29, 1, (0, 1), false, true, [.int .i64 k, .int .i64 0, .int .i64 lo, .int .i64 hi, slN l]⟩) → Q .normal a o nx) :
    WP (EX md0 X) noR 1002 (fun _ => none) (pathC [1, 1, 1, 0, 1, 0] (Tryd.f15.body.getD .skip)) a o nx (blockQ 1 Q) := by
  simp only [Tryd.f15, Option.getD_some, pathC]
  rw [textNs_map] at hlen hQ
  refine WP_loop (fun m a o nx => ∃ i : Nat, i ≤ l.length ∧ m = l.length - i ∧ 1 ≤ nx ∧ a 1 = .ptr (0, 1) (0, 1) 0 ∧ a 3 = .str (Lib.join ((l.take i).map (textN k)) (sepN k)) ∧ a 4 = .int .i64 i ∧ o (0, 1) = some (.row ⟨29, 1, (0, 1), false, true, [.int .i64 k, .int .i64 0, .int .i64 lo, .int .i64 hi, slN l]⟩)) l.length (by omega) ⟨0, by omega, by omega, by omega, a1, a3, a4, ho⟩ ?_
  clear a1 a3 a4 ho hnx
  rintro m a o nx ⟨i, hi, rfl, hnx, a1, a3, a4, ho⟩
  by_cases hlt : i < l.length
  · have hat := cNds_at hlt
    have hci := hch i hlt
    have htk := take_succ_getD hlt default
    have hle := join_take_le (l.map (textN k)) (sepN k) (i + 1)
    rw [← List.map_take, htk, List.map_append] at hle
    have hsn := join_snoc (textN k (l.getD i default)) (sepN k) ((l.take i).map (textN k))
    have hnil : (l.take i).map (textN k) = [] ↔ i = 0 := by
      constructor
      · intro e
        have := congrArg List.length e
        rw [List.length_map, List.length_take] at this
        simp at this
        rcases this with h | h
        · exact h
        · rw [h] at hlt; simp at hlt
      · rintro rfl; rfl
    have hle' : (Lib.join ((l.take i).map (textN k) ++ [textN k (l.getD i default)]) (sepN k)).length ≤ 100000000 := Nat.le_trans hle hlen
    simp only [nodeV] at hci
    have hres : (l.take (i + 1)).map (textN k) = (l.take i).map (textN k) ++ [textN k (l.getD i default)] := by rw [htk, List.map_append]; rfl
    clear htk hle
    generalize l.getD i default = x at *
    by_cases h0 : i = 0
    · rw [if_pos (hnil.2 h0)] at hsn
      rw [hsn] at hle'
      rw [hnil.2 h0] at a3
      have e0 : Lib.join [] (sepN k) = [] := rfl
      rw [e0] at a3
      simp (disch := omega) only [go_sem, ↓IntWalk.iteOmega, IntWalk.toNatUp, Nat.reduceEqDiff, Nat.reduceAdd, Nat.reduceMul, Nat.reduceSub, Nat.reduceLT, Nat.reduceLeDiff, Int.reduceToNat, Int.reduceLT, Int.reduceLE, Int.reduceEq, Int.reduceAdd, Int.reduceSub, Int.reduceMul, Int.toNat_natCast, reduceCtorEq, decide_true, decide_false, IntWalk.i64_in, IntWalk.u64_in, IntWalk.u8_in, a1, a3, a4, ho, hat, hci]
      exact ⟨_, by omega, i + 1, by omega, rfl, by rw [hres, hsn], rfl⟩
    · rw [if_neg (fun e => h0 (hnil.1 e))] at hsn
      rw [hsn, List.length_append, List.length_append] at hle'
      by_cases h5 : k = 5
      · subst h5
        have hs5 : sepN 5 = [124] := rfl
        rw [hs5] at hsn hle' a3
        simp only [List.length_singleton] at hle'
        simp (disch := omega) only [go_sem, ↓IntWalk.iteOmega, IntWalk.toNatUp, Nat.reduceEqDiff, Nat.reduceAdd, Nat.reduceMul, Nat.reduceSub, Nat.reduceLT, Nat.reduceLeDiff, Int.reduceToNat, Int.reduceLT, Int.reduceLE, Int.reduceEq, Int.reduceAdd, Int.reduceSub, Int.reduceMul, Int.toNat_natCast, reduceCtorEq, decide_true, decide_false, IntWalk.i64_in, IntWalk.u64_in, IntWalk.u8_in, a1, a3, a4, ho, hat, hci]
        exact ⟨_, by omega, i + 1, by omega, rfl, by rw [hres, hs5, hsn], rfl⟩
      · have hs5 : sepN k = [] := if_neg h5
        rw [hs5] at hsn hle' a3
        simp (disch := omega) only [go_sem, ↓IntWalk.iteOmega, IntWalk.toNatUp, Nat.reduceEqDiff, Nat.reduceAdd, Nat.reduceMul, Nat.reduceSub, Nat.reduceLT, Nat.reduceLeDiff, Int.reduceToNat, Int.reduceLT, Int.reduceLE, Int.reduceEq, Int.reduceAdd, Int.reduceSub, Int.reduceMul, Int.toNat_natCast, reduceCtorEq, decide_true, decide_false, IntWalk.i64_in, IntWalk.u64_in, IntWalk.u8_in, a1, a3, a4, ho, hat, hci, h5]
        exact ⟨_, by omega, i + 1, by omega, rfl, by rw [hres, hs5, hsn, List.append_nil], rfl⟩
  · have hie : i = l.length := by omega
    rw [hie, List.take_length] at a3
    simp (disch := omega) only [go_sem, ↓IntWalk.iteOmega, IntWalk.toNatUp, Nat.reduceEqDiff, Nat.reduceAdd, Nat.reduceMul, Nat.reduceSub, Nat.reduceLT, Nat.reduceLeDiff, Int.reduceToNat, Int.reduceLT, Int.reduceLE, Int.reduceEq, Int.reduceAdd, Int.reduceSub, Int.reduceMul, Int.toNat_natCast, reduceCtorEq, decide_true, decide_false, IntWalk.i64_in, IntWalk.u64_in, IntWalk.u8_in, a1, a3, a4, ho]
    exact hQ _ _ _ (by omega) (by simp (disch := omega) only [go_sem, ↓IntWalk.iteOmega, IntWalk.toNatUp, Nat.reduceEqDiff, Nat.reduceAdd, Nat.reduceMul, Nat.reduceSub, Nat.reduceLT, Nat.reduceLeDiff, Int.reduceToNat, Int.reduceLT, Int.reduceLE, Int.reduceEq, Int.reduceAdd, Int.reduceSub, Int.reduceMul, Int.toNat_natCast, reduceCtorEq, decide_true, decide_false, IntWalk.i64_in, IntWalk.u64_in, IntWalk.u8_in, a1]) (by simp (disch := omega) only [go_sem, ↓IntWalk.iteOmega, IntWalk.toNatUp, Nat.reduceEqDiff, Nat.reduceAdd, Nat.reduceMul, Nat.reduceSub, Nat.reduceLT, Nat.reduceLeDiff, Int.reduceToNat, Int.reduceLT, Int.reduceLE, Int.reduceEq, Int.reduceAdd, Int.reduceSub, Int.reduceMul, Int.toNat_natCast, reduceCtorEq, decide_true, decide_false, IntWalk.i64_in, IntWalk.u64_in, IntWalk.u8_in, a3]) ho
theorem dtext_many (k : Int) (l : List Nd) (hk : k = 4 ∨ k = 5) (hl : l.length ≤ 1000) (hlen : (textN 0 (.mk k 0 0 0 l)).length ≤ 100000000) (X : FuncId → List AV → Option AV) (hch : ∀ i, i < l.length → X 30 [.int .i64 k, nodeV (l.getD i default)] = some (.str (textN k (l.getD i default)))) :
    WP (EX md0 X) noR 1002 (fun _ => none) (Tryd.f15.body.getD .skip) (begin_ [nodeV (.mk k 0 0 0 l)]) (fun _ => none) 0 (finDT (textN 0 (.mk k 0 0 0 l))) := by
  have ht : textN 0 (.mk k 0 0 0 l) = Lib.join (textNs k l) (sepN k) := by
    rw [textN, if_neg (by omega), if_neg (by omega), if_neg (by omega), if_pos hk]
    rfl
  rw [ht] at hlen ⊢
  simp only [Tryd.f15, Option.getD_some, nodeV, cNd_mk]
  rcases hk with rfl | rfl
  · simp (disch := omega) only [go_sem, ↓IntWalk.iteOmega, IntWalk.toNatUp, Nat.reduceEqDiff, Nat.reduceAdd, Nat.reduceMul, Nat.reduceSub, Nat.reduceLT, Nat.reduceLeDiff, Int.reduceToNat, Int.reduceLT, Int.reduceLE, Int.reduceEq, Int.reduceAdd, Int.reduceSub, Int.reduceMul, Int.toNat_natCast, reduceCtorEq, decide_true, decide_false, IntWalk.i64_in, IntWalk.u64_in, IntWalk.u8_in]
    refine dtext_loop 4 0 0 l (by omega) hl hlen X hch (by omega) rfl rfl rfl rfl (fun a o nx hnx a1 a3 ho => ?_)
    simp (disch := omega) only [go_sem, ↓IntWalk.iteOmega, IntWalk.toNatUp, Nat.reduceEqDiff, Nat.reduceAdd, Nat.reduceMul, Nat.reduceSub, Nat.reduceLT, Nat.reduceLeDiff, Int.reduceToNat, Int.reduceLT, Int.reduceLE, Int.reduceEq, Int.reduceAdd, Int.reduceSub, Int.reduceMul, Int.toNat_natCast, reduceCtorEq, decide_true, decide_false, IntWalk.i64_in, IntWalk.u64_in, IntWalk.u8_in, a1, a3, ho]
    refine ⟨.inr rfl, ?_⟩
    simp only [Tryd.f15]
    simp (disch := omega) only [go_sem, ↓IntWalk.iteOmega, IntWalk.toNatUp, Nat.reduceEqDiff, Nat.reduceAdd, Nat.reduceMul, Nat.reduceSub, Nat.reduceLT, Nat.reduceLeDiff, Int.reduceToNat, Int.reduceLT, Int.reduceLE, Int.reduceEq, Int.reduceAdd, Int.reduceSub, Int.reduceMul, Int.toNat_natCast, reduceCtorEq, decide_true, decide_false, IntWalk.i64_in, IntWalk.u64_in, IntWalk.u8_in]
  · simp (disch := omega) only [go_sem, ↓IntWalk.iteOmega, IntWalk.toNatUp, Nat.reduceEqDiff, Nat.reduceAdd, Nat.reduceMul, Nat.reduceSub, Nat.reduceLT, Nat.reduceLeDiff, Int.reduceToNat, Int.reduceLT, Int.reduceLE, Int.reduceEq, Int.reduceAdd, Int.reduceSub, Int.reduceMul, Int.toNat_natCast, reduceCtorEq, decide_true, decide_false, IntWalk.i64_in, IntWalk.u64_in, IntWalk.u8_in]
    refine dtext_loop 5 0 0 l (by omega) hl hlen X hch (by omega) rfl rfl rfl rfl (fun a o nx hnx a1 a3 ho => ?_)
    simp (disch := omega) only [go_sem, ↓IntWalk.iteOmega, IntWalk.toNatUp, Nat.reduceEqDiff, Nat.reduceAdd, Nat.reduceMul, Nat.reduceSub, Nat.reduceLT, Nat.reduceLeDiff, Int.reduceToNat, Int.reduceLT, Int.reduceLE, Int.reduceEq, Int.reduceAdd, Int.reduceSub, Int.reduceMul, Int.toNat_natCast, reduceCtorEq, decide_true, decide_false, IntWalk.i64_in, IntWalk.u64_in, IntWalk.u8_in, a1, a3, ho]
    refine ⟨.inr rfl, ?_⟩
    simp only [Tryd.f15]
    simp (disch := omega) only [go_sem, ↓IntWalk.iteOmega, IntWalk.toNatUp, Nat.reduceEqDiff, Nat.reduceAdd, Nat.reduceMul, Nat.reduceSub, Nat.reduceLT, Nat.reduceLeDiff, Int.reduceToNat, Int.reduceLT, Int.reduceLE, Int.reduceEq, Int.reduceAdd, Int.reduceSub, Int.reduceMul, Int.toNat_natCast, reduceCtorEq, decide_true, decide_false, IntWalk.i64_in, IntWalk.u64_in, IntWalk.u8_in]
theorem aBytes_map (bs : List UInt8) : aBytes (bs.map fun b => .int .u8 b.toNat) = some bs := by
  induction bs with
  | nil => rfl
  | cons b bs ih =>
    rw [List.map_cons, aBytes, ih]
    simp [b.toNat_lt]
theorem cv_bytes {tg k g : Tag} {o : Ob} {nx n : Nat} {ro pl : Bool} {cs : List AV} (bs : List UInt8) (ho : o k = some (.row ⟨5, 1, g, ro, pl, cs⟩)) (hc : cs = bs.map fun b => .int .u8 b.toNat) (hn : n = bs.length) : aConvert Tryd.prog tg 31 9 (.ref k g 0 n) ⟨o, nx⟩ = some (.str bs, ⟨o, nx⟩) := by
  refine convert_bytes (e := 5) (n := n) (cs := cs) (by kernel_rfl) (by kernel_rfl) (by kernel_rfl) ?_ (by rw [hc, hn, List.length_map]) (by rw [hc]; exact aBytes_map bs)
  have hl : cs.length = n := by rw [hc, hn, List.length_map]
  simp only [sliceCells, aRow, ho, if_true, Option.some.injEq, Prod.mk.injEq, true_and, List.drop_zero, Nat.mul_one]
  exact take_len hl
theorem dig_conv {d : Int} (h0 : 0 ≤ d) (h1 : d ≤ 9) : IntKind.u8.wrap (48 + d) = ((dig d.toNat).toNat : Int) := by
  have : ∀ x : Fin 10, IntKind.u8.wrap (48 + (x.1 : Int)) = ((dig x.1).toNat : Int) := by decide +kernel
  have := this ⟨d.toNat, by omega⟩
  rwa [show ((d.toNat : Nat) : Int) = d by omega] at this
theorem dtext_post (k lo hi : Int) (x : Nd) (h : ((k = 6 ∨ k = 7 ∨ k = 8) ∧ lo = 0 ∧ hi = 0) ∨ (k = 9 ∧ 0 ≤ lo ∧ lo ≤ hi ∧ hi ≤ 9)) (hlen : (textN 0 (.mk k 0 lo hi [x])).length ≤ 100000000) (X : FuncId → List AV → Option AV) (hch : ∀ i, i < [x].length → X 30 [.int .i64 k, nodeV ([x].getD i default)] = some (.str (textN k ([x].getD i default)))) :
    WP (EX md0 X) noR 1002 (fun _ => none) (Tryd.f15.body.getD .skip) (begin_ [nodeV (.mk k 0 lo hi [x])]) (fun _ => none) 0 (finDT (textN 0 (.mk k 0 lo hi [x]))) := by
  have ht : textN 0 (.mk k 0 lo hi [x]) = textN k x ++ tailS k lo hi := by
    rw [textN, if_neg (by omega), if_neg (by omega), if_neg (by omega), if_neg (by omega), textNs]; rfl
  rw [ht] at hlen ⊢
  rw [List.length_append] at hlen
  have hj : Lib.join (textNs k [x]) (sepN k) = textN k x := by rw [textNs, textNs, join_one]
  simp only [Tryd.f15, Option.getD_some, nodeV, cNd_mk]
  rcases h with ⟨rfl | rfl | rfl, rfl, rfl⟩ | ⟨rfl, h0, h1, h2⟩
  · simp (disch := omega) only [go_sem, ↓IntWalk.iteOmega, IntWalk.toNatUp, Nat.reduceEqDiff, Nat.reduceAdd, Nat.reduceMul, Nat.reduceSub, Nat.reduceLT, Nat.reduceLeDiff, Int.reduceToNat, Int.reduceLT, Int.reduceLE, Int.reduceEq, Int.reduceAdd, Int.reduceSub, Int.reduceMul, Int.toNat_natCast, reduceCtorEq, decide_true, decide_false, IntWalk.i64_in, IntWalk.u64_in, IntWalk.u8_in]
    refine dtext_loop 6 0 0 [x] (by omega) (by simp) (by rw [hj]; omega) X hch (by omega) rfl rfl rfl rfl (fun a o nx hnx a1 a3 ho => ?_)
    rw [hj] at a3
    simp (disch := omega) only [go_sem, ↓IntWalk.iteOmega, IntWalk.toNatUp, Nat.reduceEqDiff, Nat.reduceAdd, Nat.reduceMul, Nat.reduceSub, Nat.reduceLT, Nat.reduceLeDiff, Int.reduceToNat, Int.reduceLT, Int.reduceLE, Int.reduceEq, Int.reduceAdd, Int.reduceSub, Int.reduceMul, Int.toNat_natCast, reduceCtorEq, decide_true, decide_false, IntWalk.i64_in, IntWalk.u64_in, IntWalk.u8_in, a1, a3, ho]
    refine ⟨.inr rfl, ?_⟩
    simp only [Tryd.f15]
    simp (disch := omega) only [go_sem, ↓IntWalk.iteOmega, IntWalk.toNatUp, Nat.reduceEqDiff, Nat.reduceAdd, Nat.reduceMul, Nat.reduceSub, Nat.reduceLT, Nat.reduceLeDiff, Int.reduceToNat, Int.reduceLT, Int.reduceLE, Int.reduceEq, Int.reduceAdd, Int.reduceSub, Int.reduceMul, Int.toNat_natCast, reduceCtorEq, decide_true, decide_false, IntWalk.i64_in, IntWalk.u64_in, IntWalk.u8_in]
    rfl
  · simp (disch := omega) only [go_sem, ↓IntWalk.iteOmega, IntWalk.toNatUp, Nat.reduceEqDiff, Nat.reduceAdd, Nat.reduceMul, Nat.reduceSub, Nat.reduceLT, Nat.reduceLeDiff, Int.reduceToNat, Int.reduceLT, Int.reduceLE, Int.reduceEq, Int.reduceAdd, Int.reduceSub, Int.reduceMul, Int.toNat_natCast, reduceCtorEq, decide_true, decide_false, IntWalk.i64_in, IntWalk.u64_in, IntWalk.u8_in]
    refine dtext_loop 7 0 0 [x] (by omega) (by simp) (by rw [hj]; omega) X hch (by omega) rfl rfl rfl rfl (fun a o nx hnx a1 a3 ho => ?_)
    rw [hj] at a3
    simp (disch := omega) only [go_sem, ↓IntWalk.iteOmega, IntWalk.toNatUp, Nat.reduceEqDiff, Nat.reduceAdd, Nat.reduceMul, Nat.reduceSub, Nat.reduceLT, Nat.reduceLeDiff, Int.reduceToNat, Int.reduceLT, Int.reduceLE, Int.reduceEq, Int.reduceAdd, Int.reduceSub, Int.reduceMul, Int.toNat_natCast, reduceCtorEq, decide_true, decide_false, IntWalk.i64_in, IntWalk.u64_in, IntWalk.u8_in, a1, a3, ho]
    refine ⟨.inr rfl, ?_⟩
    simp only [Tryd.f15]
    simp (disch := omega) only [go_sem, ↓IntWalk.iteOmega, IntWalk.toNatUp, Nat.reduceEqDiff, Nat.reduceAdd, Nat.reduceMul, Nat.reduceSub, Nat.reduceLT, Nat.reduceLeDiff, Int.reduceToNat, Int.reduceLT, Int.reduceLE, Int.reduceEq, Int.reduceAdd, Int.reduceSub, Int.reduceMul, Int.toNat_natCast, reduceCtorEq, decide_true, decide_false, IntWalk.i64_in, IntWalk.u64_in, IntWalk.u8_in]
    rfl
  · simp (disch := omega) only [go_sem, ↓IntWalk.iteOmega, IntWalk.toNatUp, Nat.reduceEqDiff, Nat.reduceAdd, Nat.reduceMul, Nat.reduceSub, Nat.reduceLT, Nat.reduceLeDiff, Int.reduceToNat, Int.reduceLT, Int.reduceLE, Int.reduceEq, Int.reduceAdd, Int.reduceSub, Int.reduceMul, Int.toNat_natCast, reduceCtorEq, decide_true, decide_false, IntWalk.i64_in, IntWalk.u64_in, IntWalk.u8_in]
    refine dtext_loop 8 0 0 [x] (by omega) (by simp) (by rw [hj]; omega) X hch (by omega) rfl rfl rfl rfl (fun a o nx hnx a1 a3 ho => ?_)
    rw [hj] at a3
    simp (disch := omega) only [go_sem, ↓IntWalk.iteOmega, IntWalk.toNatUp, Nat.reduceEqDiff, Nat.reduceAdd, Nat.reduceMul, Nat.reduceSub, Nat.reduceLT, Nat.reduceLeDiff, Int.reduceToNat, Int.reduceLT, Int.reduceLE, Int.reduceEq, Int.reduceAdd, Int.reduceSub, Int.reduceMul, Int.toNat_natCast, reduceCtorEq, decide_true, decide_false, IntWalk.i64_in, IntWalk.u64_in, IntWalk.u8_in, a1, a3, ho]
    refine ⟨.inr rfl, ?_⟩
    simp only [Tryd.f15]
    simp (disch := omega) only [go_sem, ↓IntWalk.iteOmega, IntWalk.toNatUp, Nat.reduceEqDiff, Nat.reduceAdd, Nat.reduceMul, Nat.reduceSub, Nat.reduceLT, Nat.reduceLeDiff, Int.reduceToNat, Int.reduceLT, Int.reduceLE, Int.reduceEq, Int.reduceAdd, Int.reduceSub, Int.reduceMul, Int.toNat_natCast, reduceCtorEq, decide_true, decide_false, IntWalk.i64_in, IntWalk.u64_in, IntWalk.u8_in]
    rfl
  · have c1 := dig_conv h0 (by omega)
    have c2 := dig_conv (d := hi) (by omega) h2
    simp (disch := omega) only [go_sem, ↓IntWalk.iteOmega, IntWalk.toNatUp, Nat.reduceEqDiff, Nat.reduceAdd, Nat.reduceMul, Nat.reduceSub, Nat.reduceLT, Nat.reduceLeDiff, Int.reduceToNat, Int.reduceLT, Int.reduceLE, Int.reduceEq, Int.reduceAdd, Int.reduceSub, Int.reduceMul, Int.toNat_natCast, reduceCtorEq, decide_true, decide_false, IntWalk.i64_in, IntWalk.u64_in, IntWalk.u8_in]
    refine dtext_loop 9 lo hi [x] (by omega) (by simp) (by rw [hj]; omega) X hch (by omega) rfl rfl rfl rfl (fun a o nx hnx a1 a3 ho => ?_)
    rw [hj] at a3
    have hcv : ∀ (tg k g : Tag) (o : Ob) (nx : Nat), o k = some (.row ⟨5, 1, g, false, true, [.int .u8 123, .int .u8 (dig lo.toNat).toNat, .int .u8 44, .int .u8 (dig hi.toNat).toNat, .int .u8 125]⟩) → aConvert Tryd.prog tg 31 9 (.ref k g 0 5) ⟨o, nx⟩ = some (.str [123, dig lo.toNat, 44, dig hi.toNat, 125], ⟨o, nx⟩) := fun tg k g o nx h => cv_bytes _ h rfl rfl
    simp (disch := omega) only [go_sem, ↓IntWalk.iteOmega, IntWalk.toNatUp, Nat.reduceEqDiff, Nat.reduceAdd, Nat.reduceMul, Nat.reduceSub, Nat.reduceLT, Nat.reduceLeDiff, Int.reduceToNat, Int.reduceLT, Int.reduceLE, Int.reduceEq, Int.reduceAdd, Int.reduceSub, Int.reduceMul, Int.toNat_natCast, reduceCtorEq, decide_true, decide_false, IntWalk.i64_in, IntWalk.u64_in, IntWalk.u8_in, a1, a3, ho, c1, c2]
    rw [hcv _ _ _ _ _ (upd_same _ _ _)]
    simp (disch := omega) only [go_sem, ↓IntWalk.iteOmega, IntWalk.toNatUp, Nat.reduceEqDiff, Nat.reduceAdd, Nat.reduceMul, Nat.reduceSub, Nat.reduceLT, Nat.reduceLeDiff, Int.reduceToNat, Int.reduceLT, Int.reduceLE, Int.reduceEq, Int.reduceAdd, Int.reduceSub, Int.reduceMul, Int.toNat_natCast, reduceCtorEq, decide_true, decide_false, IntWalk.i64_in, IntWalk.u64_in, IntWalk.u8_in]
    refine ⟨.inr rfl, ?_⟩
    simp only [Tryd.f15]
    simp (disch := omega) only [go_sem, ↓IntWalk.iteOmega, IntWalk.toNatUp, Nat.reduceEqDiff, Nat.reduceAdd, Nat.reduceMul, Nat.reduceSub, Nat.reduceLT, Nat.reduceLeDiff, Int.reduceToNat, Int.reduceLT, Int.reduceLE, Int.reduceEq, Int.reduceAdd, Int.reduceSub, Int.reduceMul, Int.toNat_natCast, reduceCtorEq, decide_true, decide_false, IntWalk.i64_in, IntWalk.u64_in, IntWalk.u8_in]
    rfl
def RBr (k : Int) (l : List Nd) (args : List AV) (r : AV) : Prop := ∃ i, i < l.length ∧ args = [.int .i64 k, nodeV (l.getD i default)] ∧ r = .str (textN k (l.getD i default))
theorem RBr_fn (k l) : Fun1 (RBr k l) := by
  rintro args r r' ⟨i, _, rfl, rfl⟩ ⟨j, _, h, rfl⟩
  simp only [List.cons.injEq, AV.agg.injEq, and_true, true_and] at h
  rw [cNd_inj h]
noncomputable def XDt (k : Int) (l : List Nd) : FuncId → List AV → Option AV := tabLook [(30, tRel (RBr k l)), (29, (calls E4 1000).1 29)]
theorem text_le0 (k : Int) (x : Nd) (hk : k ≠ 0) : (textN 0 x).length ≤ (textN k x).length := by
  rw [text_brk hk, brkS]
  split
  · simp; omega
  · omega
theorem dtext_ok : ∀ (n : Nd), rightN n = true → wideN n = true → (textN 0 n).length ≤ 100000000 → Ok Tryd.prog 15 [nodeV n] (.str (textN 0 n))
  | .mk k s lo hi l, hr, hw, hlen => by
    obtain ⟨hx, hc⟩ := right_cases hr
    rw [wideN, Bool.and_eq_true, decide_eq_true_eq] at hw
    have hk0 : k ≠ 0 := by omega
    have hok : CPSound Tryd.prog (XDt k l) := tab_cons (tab_cons (tab_nil _) (fun args r h => ok_calls (E := E4) ext4_ok mixed h)) (tRel_ok (fun args r h' => by
      obtain ⟨i, hil, rfl, rfl⟩ := h'
      have hm : l.getD i default ∈ l := by
        rw [List.getD_eq_getElem?_getD, List.getElem?_eq_getElem hil]
        exact List.getElem_mem hil
      have := size_at_lt hil k s lo hi
      have hle : (textN 0 (l.getD i default)).length ≤ 100000000 := Nat.le_trans (text_le0 k _ hk0) (Nat.le_trans (text_kid hr hm) hlen)
      exact bracketed_ok k _ hk0 hle (dtext_ok (l.getD i default) (hx _ hm) (wide_at hw.2 hil) hle)))
    have hset : ∀ s : Nat, 1 ≤ s → s ≤ 31 → XDt k l 29 [.int .i64 s] = some (.str (setS s)) := fun s h0 h1 => dset_at h0 h1
    have hch : ∀ i, i < l.length → XDt k l 30 [.int .i64 k, nodeV (l.getD i default)] = some (.str (textN k (l.getD i default))) := fun i h => tRel_eq (RBr_fn k l) ⟨i, h, rfl, rfl⟩
    refine ok_of_WP (E := EX md0 (XDt k l)) (cr := noR) hok (noR_ok _) mixed (k := 1002) Tryd.func15 (lookDText _) rfl ?_
    rcases hc with ⟨rfl, rfl, rfl, rfl, h0, h1⟩ | ⟨hk, rfl, rfl, rfl, rfl⟩ | ⟨hk, rfl, rfl, rfl, y1, y2, r, rfl⟩ | ⟨hk, rfl, rfl, rfl, x, rfl⟩ | ⟨rfl, rfl, h0, h1, h2, x, rfl⟩
    · exact dtext_leaf 1 s (.inl ⟨rfl, h0, h1⟩) _ hset
    · exact dtext_leaf k 0 (by omega) _ hset
    · exact dtext_many k _ hk hw.1 hlen _ hch
    · exact dtext_post k 0 0 x (.inl ⟨hk, rfl, rfl⟩) hlen _ hch
    · exact dtext_post 9 lo hi x (.inr ⟨rfl, h0, h1, h2⟩) hlen _ hch
termination_by n => SizeOf.sizeOf n
decreasing_by
  exact this
theorem RText_dok (args r) (h : RText args r) : Ok Tryd.prog 15 args r := by
  obtain ⟨n, h1, h2, h3, rfl, rfl⟩ := h
  exact dtext_ok n h1 h2 h3
end Go.Proofs.YtmcbfbpdfbcakaaDoor.A
/- Sizes, lengths, depths; Size, Same: contracts. -/
namespace Go.Proofs.YtmcbfbpdfbcakaaDoor.A
open Go
set_option maxRecDepth 20000
mutual
def szN : Nd → Nat
  | .mk _ _ _ _ l => 1 + szNs l
def szNs : List Nd → Nat
  | [] => 0
  | x :: l => szN x + szNs l
end
theorem szN_pos (x : Nd) : 1 ≤ szN x := by cases x; rw [szN]; omega
theorem szNs_app (l m : List Nd) : szNs (l ++ m) = szNs l + szNs m := by
  induction l with
  | nil => rw [szNs]; simp
  | cons x l ih => rw [List.cons_append, szNs, szNs, ih]; omega
theorem szNs_take (l : List Nd) (i : Nat) : szNs (l.take i) ≤ szNs l := by
  have := szNs_app (l.take i) (l.drop i)
  rw [List.take_append_drop] at this
  omega
theorem szNs_mem {l : List Nd} {x : Nd} (h : x ∈ l) : szN x ≤ szNs l := by
  induction l with
  | nil => cases h
  | cons y l ih =>
    rw [szNs]
    rcases List.mem_cons.1 h with rfl | h
    · omega
    · have := ih h; omega
mutual
theorem size_pow : ∀ n : Nd, slimN n = true → szN n < 5 ^ dN n
  | .mk k s lo hi l, h => by
    rw [slimN, Bool.and_eq_true, decide_eq_true_eq] at h
    have := sizes_pow l h.2
    rw [szN, dN, Nat.pow_succ]
    have : l.length * (5 ^ dNs l - 1) ≤ 4 * (5 ^ dNs l - 1) := Nat.mul_le_mul_right _ h.1
    have := Nat.one_le_pow (dNs l) 5 (by omega)
    omega
theorem sizes_pow : ∀ l : List Nd, slimNs l = true → szNs l ≤ l.length * (5 ^ dNs l - 1)
  | [], _ => by rw [szNs]; omega
  | x :: l, h => by
    rw [slimNs, Bool.and_eq_true] at h
    have h1 := size_pow x h.1
    have h2 := sizes_pow l h.2
    have h3 : 5 ^ dN x ≤ 5 ^ max (dN x) (dNs l) := Nat.pow_le_pow_right (by omega) (by omega)
    have h4 : 5 ^ dNs l ≤ 5 ^ max (dN x) (dNs l) := Nat.pow_le_pow_right (by omega) (by omega)
    rw [szNs, dNs, List.length_cons, Nat.succ_mul]
    have : l.length * (5 ^ dNs l - 1) ≤ l.length * (5 ^ max (dN x) (dNs l) - 1) := Nat.mul_le_mul_left _ (by omega)
    omega
end
mutual
theorem bd_le : ∀ n : Nd, bd n ≤ dN n ∧ bd5 n ≤ dN n
  | .mk k s lo hi l => by
    have := bds_dNs l
    rw [bd, bd5, dN]
    constructor <;> split <;> (try split) <;> omega
theorem bds_dNs : ∀ l : List Nd, bds l ≤ dNs l ∧ bd5s l ≤ dNs l
  | [] => by rw [bds, bd5s, dNs]; omega
  | x :: l => by
    have h1 := bd_le x
    have h2 := bds_dNs l
    rw [bds, bd5s, dNs]
    omega
end
theorem bd0_le (n : Nd) : bd0 n ≤ dN n := by
  obtain ⟨k, s, lo, hi, l⟩ := n
  have := bds_dNs l
  rw [bd0, dN]
  split <;> omega
theorem set_len : ∀ q : Fin 31, (setS (q.1 + 1)).length ≤ 7 := by decide +kernel
theorem joins_len (k : Int) (sep : List UInt8) (hs : sep.length ≤ 1) : ∀ l : List Nd, (∀ x ∈ l, (textN k x).length + 1 ≤ 9 * szN x) → l ≠ [] → (Lib.join (textNs k l) sep).length + 1 ≤ 9 * szNs l
  | [], _, h => absurd rfl h
  | [x], h, _ => by
    rw [textNs, textNs, join_one, szNs, szNs]
    exact h x (by simp)
  | x :: y :: l, h, _ => by
    have h1 := h x (by simp)
    have h2 := joins_len k sep hs (y :: l) (fun z hz => h z (List.mem_cons_of_mem _ hz)) (by simp)
    have e : textNs k (x :: y :: l) = textN k x :: textN k y :: textNs k l := by rw [textNs, textNs]
    have e2 : textNs k (y :: l) = textN k y :: textNs k l := by rw [textNs]
    have e3 : szNs (x :: y :: l) = szN x + szNs (y :: l) := by rw [szNs]
    rw [e2] at h2
    rw [e, join_cons2, List.length_append, List.length_append, e3]
    omega
theorem text_len : ∀ (n : Nd) (w : Int), rightN n = true → (textN w n).length + 1 ≤ 9 * szN n
  | .mk k s lo hi l, w, hr => by
    obtain ⟨hx, hc⟩ := right_cases hr
    have hkid : ∀ x ∈ l, (textN k x).length + 1 ≤ 9 * szN x := fun x hm => by
      have : SizeOf.sizeOf x < SizeOf.sizeOf (Nd.mk k s lo hi l) := by
        have := List.sizeOf_lt_of_mem hm
        simp only [Nd.mk.sizeOf_spec]
        omega
      exact text_len x k (hx x hm)
    rw [szN]
    rcases hc with ⟨rfl, rfl, rfl, rfl, h0, h1⟩ | ⟨hk, rfl, rfl, rfl, rfl⟩ | ⟨hk, rfl, rfl, rfl, y1, y2, r, rfl⟩ | ⟨hk, rfl, rfl, rfl, x, rfl⟩ | ⟨rfl, rfl, h0, h1, h2, x, rfl⟩
    · rw [textN, if_pos rfl]
      have := set_len ⟨s.toNat - 1, by omega⟩
      rw [show s.toNat - 1 + 1 = s.toNat by omega] at this
      omega
    · rcases hk with rfl | rfl
      · rw [textN, if_neg (by decide), if_pos rfl]; simp; omega
      · rw [textN, if_neg (by decide), if_neg (by decide), if_pos rfl]; simp; omega
    · rw [textN, if_neg (by omega), if_neg (by omega), if_neg (by omega), if_pos hk, brkS]
      have := joins_len k (if k = 5 then [124] else []) (by split <;> simp) _ hkid (by simp)
      split
      · simp only [List.length_cons, List.length_append, List.length_nil]; omega
      · omega
    · have := hkid x (by simp)
      rw [textN, if_neg (by omega), if_neg (by omega), if_neg (by omega), if_neg (by omega), textNs, szNs, szNs, List.headD_cons, List.length_append]
      have : (tailS k 0 0).length ≤ 5 := by unfold tailS; repeat' split
                                            all_goals simp
      omega
    · have := hkid x (by simp)
      rw [textN, if_neg (by omega), if_neg (by omega), if_neg (by omega), if_neg (by omega), textNs, szNs, szNs, List.headD_cons, List.length_append]
      have : (tailS 9 lo hi).length ≤ 5 := by unfold tailS; repeat' split
                                              all_goals simp
      omega
termination_by n => SizeOf.sizeOf n
decreasing_by
  exact this
/-- What an expression of raw ones is. -/
theorem one_all {l : List Rw} (h : fewR l = true) : rightN (oneN l) = true ∧ wideN (oneN l) = true ∧ szN (oneN l) ≤ 1000000 ∧ (∀ w, (textN w (oneN l)).length ≤ 9000000) ∧ bd0 (oneN l) ≤ 8 ∧ bd (oneN l) ≤ 8 ∧ bd5 (oneN l) ≤ 8 := by
  obtain ⟨h1, h2, h3⟩ := oneN_okR h
  have h4 := size_pow _ h2
  have h5 : 5 ^ dN (oneN l) ≤ 5 ^ 8 := Nat.pow_le_pow_right (by omega) h3
  have h6 := bd_le (oneN l)
  have h7 := bd0_le (oneN l)
  have e : 5 ^ 8 = 390625 := by decide
  refine ⟨h1, slim_wide _ h2, by omega, fun w => ?_, by omega, by omega, by omega⟩
  have := text_len (oneN l) w h1
  omega
/-! ### Size -/
theorem lookRSize (X) : lookedAt (EX md0 X) (fun _ => none) 1 Tryd.f26 = true := by kernel_rfl
theorem lookDSize (X) : lookedAt (EX md0 X) (fun _ => none) 1 Tryd.f27 = true := by kernel_rfl
def RSz (l : List Nd) (args : List AV) (r : AV) : Prop := ∃ i, i < l.length ∧ args = [nodeV (l.getD i default)] ∧ r = .int .i64 (szN (l.getD i default))
theorem RSz_fn (l) : Fun1 (RSz l) := by
  rintro args r r' ⟨i, _, rfl, rfl⟩ ⟨j, _, h, rfl⟩
  simp only [List.cons.injEq, AV.agg.injEq, and_true] at h
  rw [cNd_inj h]
theorem nd_memU {l : List Nd} {i : Nat} (h : i < l.length) : l.getD i default ∈ l := by
  rw [List.getD_eq_getElem?_getD, List.getElem?_eq_getElem h]
  exact List.getElem_mem h
theorem szNs_snoc {l : List Nd} {i : Nat} (h : i < l.length) : szNs (l.take (i + 1)) = szNs (l.take i) + szN (l.getD i default) := by
  rw [take_succ_getD h default, szNs_app, szNs, szNs]
  omega
theorem rsize_ok : ∀ n : Nd, wideN n = true → szN n ≤ 1000000000 → Ok Tryd.prog 26 [nodeV n] (.int .i64 (szN n))
  | .mk k s lo hi l, hw, hsz => by
    rw [wideN, Bool.and_eq_true, decide_eq_true_eq] at hw
    rw [szN] at hsz ⊢
    refine ok_of_WP (E := EX md0 (tabLook [(26, tRel (RSz l))])) (cr := noR) (tab_cons (tab_nil _) (tRel_ok (fun args r h' => by
      obtain ⟨i, hil, rfl, rfl⟩ := h'
      have hmem := szNs_mem (nd_memU hil)
      have := size_at_lt hil k s lo hi
      exact rsize_ok (l.getD i default) (wide_at hw.2 hil) (by omega)))) (noR_ok _) mixed (k := 1002) Tryd.func26 (lookRSize _) rfl ?_
    have hch : ∀ i, i < l.length → tabLook [(26, tRel (RSz l))] 26 [nodeV (l.getD i default)] = some (.int .i64 (szN (l.getD i default))) := fun i h => tRel_eq (RSz_fn l) ⟨i, h, rfl, rfl⟩
    simp only [Tryd.f26, Option.getD_some, nodeV, cNd_mk]
    have hl := hw.1
    simp (disch := omega) only [go_sem, ↓IntWalk.iteOmega, IntWalk.toNatUp, Nat.reduceEqDiff, Nat.reduceAdd, Nat.reduceMul, Nat.reduceSub, Nat.reduceLT, Nat.reduceLeDiff, Int.reduceToNat, Int.reduceLT, Int.reduceLE, Int.reduceEq, Int.reduceAdd, Int.reduceSub, Int.reduceMul, Int.toNat_natCast, reduceCtorEq, decide_true, decide_false, IntWalk.i64_in, IntWalk.u64_in, IntWalk.u8_in]
    refine WP_loop (fun m a o nx => ∃ i : Nat, i ≤ l.length ∧ m = l.length - i ∧ 1 ≤ nx ∧ a 3 = .int .i64 ((1 + szNs (l.take i) : Nat) : Int) ∧ a 7 = slN l ∧ a 8 = .int .i64 l.length ∧ a 9 = .int .i64 i) l.length (by omega) ⟨0, by omega, by omega, by omega, by simp (disch := omega) only [go_sem, ↓IntWalk.iteOmega, IntWalk.toNatUp, Nat.reduceEqDiff, Nat.reduceAdd, Nat.reduceMul, Nat.reduceSub, Nat.reduceLT, Nat.reduceLeDiff, Int.reduceToNat, Int.reduceLT, Int.reduceLE, Int.reduceEq, Int.reduceAdd, Int.reduceSub, Int.reduceMul, Int.toNat_natCast, reduceCtorEq, decide_true, decide_false, IntWalk.i64_in, IntWalk.u64_in, IntWalk.u8_in]; rw [szNs]; rfl, by simp (disch := omega) only [go_sem, ↓IntWalk.iteOmega, IntWalk.toNatUp, Nat.reduceEqDiff, Nat.reduceAdd, Nat.reduceMul, Nat.reduceSub, Nat.reduceLT, Nat.reduceLeDiff, Int.reduceToNat, Int.reduceLT, Int.reduceLE, Int.reduceEq, Int.reduceAdd, Int.reduceSub, Int.reduceMul, Int.toNat_natCast, reduceCtorEq, decide_true, decide_false, IntWalk.i64_in, IntWalk.u64_in, IntWalk.u8_in], by simp (disch := omega) only [go_sem, ↓IntWalk.iteOmega, IntWalk.toNatUp, Nat.reduceEqDiff, Nat.reduceAdd, Nat.reduceMul, Nat.reduceSub, Nat.reduceLT, Nat.reduceLeDiff, Int.reduceToNat, Int.reduceLT, Int.reduceLE, Int.reduceEq, Int.reduceAdd, Int.reduceSub, Int.reduceMul, Int.toNat_natCast, reduceCtorEq, decide_true, decide_false, IntWalk.i64_in, IntWalk.u64_in, IntWalk.u8_in], by simp (disch := omega) only [go_sem, ↓IntWalk.iteOmega, IntWalk.toNatUp, Nat.reduceEqDiff, Nat.reduceAdd, Nat.reduceMul, Nat.reduceSub, Nat.reduceLT, Nat.reduceLeDiff, Int.reduceToNat, Int.reduceLT, Int.reduceLE, Int.reduceEq, Int.reduceAdd, Int.reduceSub, Int.reduceMul, Int.toNat_natCast, reduceCtorEq, decide_true, decide_false, IntWalk.i64_in, IntWalk.u64_in, IntWalk.u8_in]⟩ ?_
    rintro m a o nx ⟨i, hi', rfl, hnx, a3, a7, a8, a9⟩
    have hle := szNs_take l i
    by_cases hlt : i < l.length
    · have hat := cNds_at hlt
      have hci := hch i hlt
      have hsn := szNs_snoc hlt
      have hle2 := szNs_take l (i + 1)
      simp only [nodeV] at hci
      generalize l.getD i default = x at *
      simp (disch := omega) only [go_sem, ↓IntWalk.iteOmega, IntWalk.toNatUp, Nat.reduceEqDiff, Nat.reduceAdd, Nat.reduceMul, Nat.reduceSub, Nat.reduceLT, Nat.reduceLeDiff, Int.reduceToNat, Int.reduceLT, Int.reduceLE, Int.reduceEq, Int.reduceAdd, Int.reduceSub, Int.reduceMul, Int.toNat_natCast, reduceCtorEq, decide_true, decide_false, IntWalk.i64_in, IntWalk.u64_in, IntWalk.u8_in, a3, a7, a8, a9, hat, hci]
      refine ⟨_, by omega, i + 1, by omega, rfl, ?_, rfl⟩
      rw [hsn]
      congr 1
      omega
    · have hie : i = l.length := by omega
      rw [hie, List.take_length] at a3
      simp (disch := omega) only [go_sem, ↓IntWalk.iteOmega, IntWalk.toNatUp, Nat.reduceEqDiff, Nat.reduceAdd, Nat.reduceMul, Nat.reduceSub, Nat.reduceLT, Nat.reduceLeDiff, Int.reduceToNat, Int.reduceLT, Int.reduceLE, Int.reduceEq, Int.reduceAdd, Int.reduceSub, Int.reduceMul, Int.toNat_natCast, reduceCtorEq, decide_true, decide_false, IntWalk.i64_in, IntWalk.u64_in, IntWalk.u8_in, a3, a7, a8, a9]
termination_by n => SizeOf.sizeOf n
decreasing_by
  exact this
theorem dsize_ok : ∀ n : Nd, wideN n = true → szN n ≤ 1000000000 → Ok Tryd.prog 27 [nodeV n] (.int .i64 (szN n))
  | .mk k s lo hi l, hw, hsz => by
    rw [wideN, Bool.and_eq_true, decide_eq_true_eq] at hw
    rw [szN] at hsz ⊢
    refine ok_of_WP (E := EX md0 (tabLook [(27, tRel (RSz l))])) (cr := noR) (tab_cons (tab_nil _) (tRel_ok (fun args r h' => by
      obtain ⟨i, hil, rfl, rfl⟩ := h'
      have hmem := szNs_mem (nd_memU hil)
      have := size_at_lt hil k s lo hi
      exact dsize_ok (l.getD i default) (wide_at hw.2 hil) (by omega)))) (noR_ok _) mixed (k := 1002) Tryd.func27 (lookDSize _) rfl ?_
    have hch : ∀ i, i < l.length → tabLook [(27, tRel (RSz l))] 27 [nodeV (l.getD i default)] = some (.int .i64 (szN (l.getD i default))) := fun i h => tRel_eq (RSz_fn l) ⟨i, h, rfl, rfl⟩
    simp only [Tryd.f27, Option.getD_some, nodeV, cNd_mk]
    have hl := hw.1
    simp (disch := omega) only [go_sem, ↓IntWalk.iteOmega, IntWalk.toNatUp, Nat.reduceEqDiff, Nat.reduceAdd, Nat.reduceMul, Nat.reduceSub, Nat.reduceLT, Nat.reduceLeDiff, Int.reduceToNat, Int.reduceLT, Int.reduceLE, Int.reduceEq, Int.reduceAdd, Int.reduceSub, Int.reduceMul, Int.toNat_natCast, reduceCtorEq, decide_true, decide_false, IntWalk.i64_in, IntWalk.u64_in, IntWalk.u8_in]
    refine WP_loop (fun m a o nx => ∃ i : Nat, i ≤ l.length ∧ m = l.length - i ∧ 1 ≤ nx ∧ a 1 = .ptr (0, 1) (0, 1) 0 ∧ a 3 = .int .i64 ((1 + szNs (l.take i) : Nat) : Int) ∧ a 4 = .int .i64 i ∧ o (0, 1) = some (.row ⟨29, 1, (0, 1), false, true, [.int .i64 k, .int .i64 s, .int .i64 lo, .int .i64 hi, slN l]⟩)) l.length (by omega) ⟨0, by omega, by omega, by omega, by simp (disch := omega) only [go_sem, ↓IntWalk.iteOmega, IntWalk.toNatUp, Nat.reduceEqDiff, Nat.reduceAdd, Nat.reduceMul, Nat.reduceSub, Nat.reduceLT, Nat.reduceLeDiff, Int.reduceToNat, Int.reduceLT, Int.reduceLE, Int.reduceEq, Int.reduceAdd, Int.reduceSub, Int.reduceMul, Int.toNat_natCast, reduceCtorEq, decide_true, decide_false, IntWalk.i64_in, IntWalk.u64_in, IntWalk.u8_in], by simp (disch := omega) only [go_sem, ↓IntWalk.iteOmega, IntWalk.toNatUp, Nat.reduceEqDiff, Nat.reduceAdd, Nat.reduceMul, Nat.reduceSub, Nat.reduceLT, Nat.reduceLeDiff, Int.reduceToNat, Int.reduceLT, Int.reduceLE, Int.reduceEq, Int.reduceAdd, Int.reduceSub, Int.reduceMul, Int.toNat_natCast, reduceCtorEq, decide_true, decide_false, IntWalk.i64_in, IntWalk.u64_in, IntWalk.u8_in]; rw [szNs]; rfl, by simp (disch := omega) only [go_sem, ↓IntWalk.iteOmega, IntWalk.toNatUp, Nat.reduceEqDiff, Nat.reduceAdd, Nat.reduceMul, Nat.reduceSub, Nat.reduceLT, Nat.reduceLeDiff, Int.reduceToNat, Int.reduceLT, Int.reduceLE, Int.reduceEq, Int.reduceAdd, Int.reduceSub, Int.reduceMul, Int.toNat_natCast, reduceCtorEq, decide_true, decide_false, IntWalk.i64_in, IntWalk.u64_in, IntWalk.u8_in], by simp (disch := omega) only [go_sem, ↓IntWalk.iteOmega, IntWalk.toNatUp, Nat.reduceEqDiff, Nat.reduceAdd, Nat.reduceMul, Nat.reduceSub, Nat.reduceLT, Nat.reduceLeDiff, Int.reduceToNat, Int.reduceLT, Int.reduceLE, Int.reduceEq, Int.reduceAdd, Int.reduceSub, Int.reduceMul, Int.toNat_natCast, reduceCtorEq, decide_true, decide_false, IntWalk.i64_in, IntWalk.u64_in, IntWalk.u8_in]⟩ ?_
    rintro m a o nx ⟨i, hi', rfl, hnx, a1, a3, a4, ho⟩
    have hle := szNs_take l i
    by_cases hlt : i < l.length
    · have hat := cNds_at hlt
      have hci := hch i hlt
      have hsn := szNs_snoc hlt
      have hle2 := szNs_take l (i + 1)
      simp only [nodeV] at hci
      generalize l.getD i default = x at *
      simp (disch := omega) only [go_sem, ↓IntWalk.iteOmega, IntWalk.toNatUp, Nat.reduceEqDiff, Nat.reduceAdd, Nat.reduceMul, Nat.reduceSub, Nat.reduceLT, Nat.reduceLeDiff, Int.reduceToNat, Int.reduceLT, Int.reduceLE, Int.reduceEq, Int.reduceAdd, Int.reduceSub, Int.reduceMul, Int.toNat_natCast, reduceCtorEq, decide_true, decide_false, IntWalk.i64_in, IntWalk.u64_in, IntWalk.u8_in, a1, a3, a4, ho, hat, hci]
      refine ⟨_, by omega, i + 1, by omega, rfl, ?_, rfl⟩
      rw [hsn]
      congr 1
      omega
    · have hie : i = l.length := by omega
      rw [hie, List.take_length] at a3
      simp (disch := omega) only [go_sem, ↓IntWalk.iteOmega, IntWalk.toNatUp, Nat.reduceEqDiff, Nat.reduceAdd, Nat.reduceMul, Nat.reduceSub, Nat.reduceLT, Nat.reduceLeDiff, Int.reduceToNat, Int.reduceLT, Int.reduceLE, Int.reduceEq, Int.reduceAdd, Int.reduceSub, Int.reduceMul, Int.toNat_natCast, reduceCtorEq, decide_true, decide_false, IntWalk.i64_in, IntWalk.u64_in, IntWalk.u8_in, a1, a3, a4, ho]
termination_by n => SizeOf.sizeOf n
decreasing_by
  exact this
/-! ### Same, of two alike -/
theorem lookSame4 (X) : lookedAt (EX md0 X) (fun _ => none) 2 Tryd.f20 = true := by kernel_rfl
def RSa (l : List Nd) (args : List AV) (r : AV) : Prop := ∃ i, i < l.length ∧ args = [nodeV (l.getD i default), nodeV (l.getD i default)] ∧ r = .bool true
theorem RSa_fn (l) : Fun1 (RSa l) := by
  rintro args r r' ⟨i, _, rfl, rfl⟩ ⟨j, _, h, rfl⟩
  rfl
theorem same4_ok : ∀ n : Nd, wideN n = true → Ok Tryd.prog 20 [nodeV n, nodeV n] (.bool true)
  | .mk k s lo hi l, hw => by
    rw [wideN, Bool.and_eq_true, decide_eq_true_eq] at hw
    refine ok_of_WP (E := EX md0 (tabLook [(20, tRel (RSa l))])) (cr := noR) (tab_cons (tab_nil _) (tRel_ok (fun args r h' => by
      obtain ⟨i, hil, rfl, rfl⟩ := h'
      have := size_at_lt hil k s lo hi
      exact same4_ok (l.getD i default) (wide_at hw.2 hil)))) (noR_ok _) mixed (k := 1002) Tryd.func20 (lookSame4 _) rfl ?_
    have hch : ∀ i, i < l.length → tabLook [(20, tRel (RSa l))] 20 [nodeV (l.getD i default), nodeV (l.getD i default)] = some (.bool true) := fun i h => tRel_eq (RSa_fn l) ⟨i, h, rfl, rfl⟩
    simp only [Tryd.f20, Option.getD_some, nodeV, cNd_mk]
    have hl := hw.1
    simp (disch := omega) only [go_sem, ↓IntWalk.iteOmega, IntWalk.toNatUp, Nat.reduceEqDiff, Nat.reduceAdd, Nat.reduceMul, Nat.reduceSub, Nat.reduceLT, Nat.reduceLeDiff, Int.reduceToNat, Int.reduceLT, Int.reduceLE, Int.reduceEq, Int.reduceAdd, Int.reduceSub, Int.reduceMul, Int.toNat_natCast, reduceCtorEq, decide_true, decide_false, IntWalk.i64_in, IntWalk.u64_in, IntWalk.u8_in]
    refine WP_loop (fun m a o nx => ∃ i : Nat, i ≤ l.length ∧ m = l.length - i ∧ 1 ≤ nx ∧ a 2 = .ptr (0, 2) (0, 2) 0 ∧ a 3 = .ptr (0, 3) (0, 3) 0 ∧ a 5 = .int .i64 i ∧ o (0, 2) = some (.row ⟨29, 1, (0, 2), false, true, [.int .i64 k, .int .i64 s, .int .i64 lo, .int .i64 hi, slN l]⟩) ∧ o (0, 3) = some (.row ⟨29, 1, (0, 3), false, true, [.int .i64 k, .int .i64 s, .int .i64 lo, .int .i64 hi, slN l]⟩)) l.length (by omega) ⟨0, by omega, by omega, by omega, by simp (disch := omega) only [go_sem, ↓IntWalk.iteOmega, IntWalk.toNatUp, Nat.reduceEqDiff, Nat.reduceAdd, Nat.reduceMul, Nat.reduceSub, Nat.reduceLT, Nat.reduceLeDiff, Int.reduceToNat, Int.reduceLT, Int.reduceLE, Int.reduceEq, Int.reduceAdd, Int.reduceSub, Int.reduceMul, Int.toNat_natCast, reduceCtorEq, decide_true, decide_false, IntWalk.i64_in, IntWalk.u64_in, IntWalk.u8_in], by simp (disch := omega) only [go_sem, ↓IntWalk.iteOmega, IntWalk.toNatUp, Nat.reduceEqDiff, Nat.reduceAdd, Nat.reduceMul, Nat.reduceSub, Nat.reduceLT, Nat.reduceLeDiff, Int.reduceToNat, Int.reduceLT, Int.reduceLE, Int.reduceEq, Int.reduceAdd, Int.reduceSub, Int.reduceMul, Int.toNat_natCast, reduceCtorEq, decide_true, decide_false, IntWalk.i64_in, IntWalk.u64_in, IntWalk.u8_in], by simp (disch := omega) only [go_sem, ↓IntWalk.iteOmega, IntWalk.toNatUp, Nat.reduceEqDiff, Nat.reduceAdd, Nat.reduceMul, Nat.reduceSub, Nat.reduceLT, Nat.reduceLeDiff, Int.reduceToNat, Int.reduceLT, Int.reduceLE, Int.reduceEq, Int.reduceAdd, Int.reduceSub, Int.reduceMul, Int.toNat_natCast, reduceCtorEq, decide_true, decide_false, IntWalk.i64_in, IntWalk.u64_in, IntWalk.u8_in], by simp (disch := omega) only [go_sem, ↓IntWalk.iteOmega, IntWalk.toNatUp, Nat.reduceEqDiff, Nat.reduceAdd, Nat.reduceMul, Nat.reduceSub, Nat.reduceLT, Nat.reduceLeDiff, Int.reduceToNat, Int.reduceLT, Int.reduceLE, Int.reduceEq, Int.reduceAdd, Int.reduceSub, Int.reduceMul, Int.toNat_natCast, reduceCtorEq, decide_true, decide_false, IntWalk.i64_in, IntWalk.u64_in, IntWalk.u8_in], by simp (disch := omega) only [go_sem, ↓IntWalk.iteOmega, IntWalk.toNatUp, Nat.reduceEqDiff, Nat.reduceAdd, Nat.reduceMul, Nat.reduceSub, Nat.reduceLT, Nat.reduceLeDiff, Int.reduceToNat, Int.reduceLT, Int.reduceLE, Int.reduceEq, Int.reduceAdd, Int.reduceSub, Int.reduceMul, Int.toNat_natCast, reduceCtorEq, decide_true, decide_false, IntWalk.i64_in, IntWalk.u64_in, IntWalk.u8_in]⟩ ?_
    rintro m a o nx ⟨i, hi', rfl, hnx, a2, a3, a5, ho2, ho3⟩
    by_cases hlt : i < l.length
    · have hat := cNds_at hlt
      have hci := hch i hlt
      simp only [nodeV] at hci
      generalize l.getD i default = x at *
      simp (disch := omega) only [go_sem, ↓IntWalk.iteOmega, IntWalk.toNatUp, Nat.reduceEqDiff, Nat.reduceAdd, Nat.reduceMul, Nat.reduceSub, Nat.reduceLT, Nat.reduceLeDiff, Int.reduceToNat, Int.reduceLT, Int.reduceLE, Int.reduceEq, Int.reduceAdd, Int.reduceSub, Int.reduceMul, Int.toNat_natCast, reduceCtorEq, decide_true, decide_false, IntWalk.i64_in, IntWalk.u64_in, IntWalk.u8_in, a2, a3, a5, ho2, ho3, hat, hci]
      exact ⟨_, by omega, i + 1, by omega, rfl, rfl⟩
    · simp (disch := omega) only [go_sem, ↓IntWalk.iteOmega, IntWalk.toNatUp, Nat.reduceEqDiff, Nat.reduceAdd, Nat.reduceMul, Nat.reduceSub, Nat.reduceLT, Nat.reduceLeDiff, Int.reduceToNat, Int.reduceLT, Int.reduceLE, Int.reduceEq, Int.reduceAdd, Int.reduceSub, Int.reduceMul, Int.toNat_natCast, reduceCtorEq, decide_true, decide_false, IntWalk.i64_in, IntWalk.u64_in, IntWalk.u8_in, a2, a3, a5, ho2, ho3]
termination_by n => SizeOf.sizeOf n
decreasing_by
  exact this
end Go.Proofs.YtmcbfbpdfbcakaaDoor.A
/- The tables of RegexBack, RegexParts, RegexAgain. -/
namespace Go.Proofs.YtmcbfbpdfbcakaaDoor.A
open Go
set_option maxRecDepth 20000
def RRr (args : List AV) (r : AV) : Prop := ∃ n, wideN n = true ∧ args = [nodeV n] ∧ r = .bool (rightN n)
theorem RRr_fn : Fun1 RRr := by
  rintro args r r' ⟨n, _, rfl, rfl⟩ ⟨n', _, h, rfl⟩
  simp only [List.cons.injEq, AV.agg.injEq, and_true] at h
  rw [cNd_inj h]
theorem RRr_ok (args r) (h : RRr args r) : Ok Tryd.prog 23 args r := by obtain ⟨n, hw, rfl, rfl⟩ := h; exact right_ok n hw
def RFw (args : List AV) (r : AV) : Prop := ∃ l, args = [slR l] ∧ r = .bool (fewR l)
theorem RFw_fn : Fun1 RFw := by
  rintro args r r' ⟨x, rfl, rfl⟩ ⟨x', h, rfl⟩
  simp only [List.cons.injEq, AV.sl.injEq, and_true] at h
  rw [cRws_inj h.2]
theorem RFw_ok (args r) (h : RFw args r) : Ok Tryd.prog 14 args r := by obtain ⟨x, rfl, rfl⟩ := h; exact few4_ok x
def ROn (args : List AV) (r : AV) : Prop := ∃ l, args = [slR l] ∧ r = nodeV (oneN l)
theorem ROn_fn : Fun1 ROn := by
  rintro args r r' ⟨x, rfl, rfl⟩ ⟨x', h, rfl⟩
  simp only [List.cons.injEq, AV.sl.injEq, and_true] at h
  rw [cRws_inj h.2]
theorem ROn_ok (args r) (h : ROn args r) : Ok Tryd.prog 16 args r := by obtain ⟨x, rfl, rfl⟩ := h; exact one_ok x
def RSize4 (args : List AV) (r : AV) : Prop := ∃ n, wideN n = true ∧ szN n ≤ 1000000000 ∧ args = [nodeV n] ∧ r = .int .i64 (szN n)
theorem RSize4_fn : Fun1 RSize4 := by
  rintro args r r' ⟨n, _, _, rfl, rfl⟩ ⟨n', _, _, h, rfl⟩
  simp only [List.cons.injEq, AV.agg.injEq, and_true] at h
  rw [cNd_inj h]
theorem RSize4_ok (args r) (h : RSize4 args r) : Ok Tryd.prog 26 args r := by obtain ⟨n, h1, h2, rfl, rfl⟩ := h; exact rsize_ok n h1 h2
theorem RSize4_dok (args r) (h : RSize4 args r) : Ok Tryd.prog 27 args r := by obtain ⟨n, h1, h2, rfl, rfl⟩ := h; exact dsize_ok n h1 h2
def RSame4 (args : List AV) (r : AV) : Prop := ∃ n, wideN n = true ∧ args = [nodeV n, nodeV n] ∧ r = .bool true
theorem RSame4_fn : Fun1 RSame4 := by
  rintro args r r' ⟨n, _, rfl, rfl⟩ ⟨n', _, h, rfl⟩
  rfl
theorem RSame4_ok (args r) (h : RSame4 args r) : Ok Tryd.prog 20 args r := by obtain ⟨n, h1, rfl, rfl⟩ := h; exact same4_ok n h1
noncomputable def XBk : FuncId → List AV → Option AV := tabLook [(13, tRel RKn4), (14, tRel RFw), (16, tRel ROn), (25, tRel RText), (15, tRel RText), (23, tRel RRr), (26, tRel RSize4), (27, tRel RSize4), (18, tRel RParse), (20, tRel RSame4), (17, tRel RW)]
theorem XBk_ok : CPSound Tryd.prog XBk := tab_cons (tab_cons (tab_cons (tab_cons (tab_cons (tab_cons (tab_cons (tab_cons (tab_cons (tab_cons (tab_cons (tab_nil _) (tRel_ok within2_ok)) (tRel_ok RSame4_ok)) (tRel_ok RParse_ok)) (tRel_ok RSize4_dok)) (tRel_ok RSize4_ok)) (tRel_ok RRr_ok)) (tRel_ok RText_dok)) (tRel_ok RText_ok)) (tRel_ok ROn_ok)) (tRel_ok RFw_ok)) (tRel_ok RKn4_ok)
theorem XBk_known : XBk 13 [] = some (.bool true) := tRel_eq (R := RKn4) RKn4_fn ⟨rfl, rfl⟩
theorem XBk_few (l) : XBk 14 [slR l] = some (.bool (fewR l)) := tRel_eq (R := RFw) RFw_fn ⟨_, rfl, rfl⟩
theorem XBk_one (l) : XBk 16 [slR l] = some (nodeV (oneN l)) := tRel_eq (R := ROn) ROn_fn ⟨_, rfl, rfl⟩
theorem XBk_text {n : Nd} (h1 : rightN n = true) (h2 : wideN n = true) (h3 : (textN 0 n).length ≤ 100000000) : XBk 25 [nodeV n] = some (.str (textN 0 n)) := tRel_eq (R := RText) RText_fn ⟨_, h1, h2, h3, rfl, rfl⟩
theorem XBk_dtext {n : Nd} (h1 : rightN n = true) (h2 : wideN n = true) (h3 : (textN 0 n).length ≤ 100000000) : XBk 15 [nodeV n] = some (.str (textN 0 n)) := tRel_eq (R := RText) RText_fn ⟨_, h1, h2, h3, rfl, rfl⟩
theorem XBk_right {n : Nd} (h2 : wideN n = true) : XBk 23 [nodeV n] = some (.bool (rightN n)) := tRel_eq (R := RRr) RRr_fn ⟨_, h2, rfl, rfl⟩
theorem XBk_size {n : Nd} (h2 : wideN n = true) (h3 : szN n ≤ 1000000000) : XBk 26 [nodeV n] = some (.int .i64 (szN n)) := tRel_eq (R := RSize4) RSize4_fn ⟨_, h2, h3, rfl, rfl⟩
theorem XBk_dsize {n : Nd} (h2 : wideN n = true) (h3 : szN n ≤ 1000000000) : XBk 27 [nodeV n] = some (.int .i64 (szN n)) := tRel_eq (R := RSize4) RSize4_fn ⟨_, h2, h3, rfl, rfl⟩
theorem XBk_parse (s : List UInt8) : XBk 18 [.str s] = some (.tup [nodeV (parseN s).1, .int .i64 (parseN s).2.1, .int .i64 (parseN s).2.2]) := tRel_eq (R := RParse) RParse_fn ⟨_, rfl, rfl⟩
theorem XBk_same {n : Nd} (h2 : wideN n = true) : XBk 20 [nodeV n, nodeV n] = some (.bool true) := tRel_eq (R := RSame4) RSame4_fn ⟨_, h2, rfl, rfl⟩
theorem XBk_within (a n : Int) (h1 : 0 < n) (h2 : n ≤ 1000000) : XBk 17 [.int .i64 a, .int .i64 n] = some (.int .i64 (a % n)) := rw_eq h1 h2
theorem parse_long {s : List UInt8} (h : 200 < s.length) : parseN s = (zeroN, 0, 4) := by rw [parseN, if_pos h]
end Go.Proofs.YtmcbfbpdfbcakaaDoor.A
/- The document's reader: its row; next, fail, mode, class. -/
namespace Go.Proofs.YtmcbfbpdfbcakaaDoor.A
open Go
set_option maxRecDepth 20000
/-! ### frozen results -/
theorem runP_callF {E : Env} {cr : CallR} {k : Nat} {nz : Nat → Option (List (Nat × Nat))} {fn : Func} {c : Code} {args : List AV} {o : Ob} {nx : Nat} {K : AV × AH → Prop} (hb : fn.body = some c)
    (h : WP E cr k nz c (begin_ args) o nx (fun u a o' nx' => (u = .normal ∨ u = .ret) ∧ wO (resultsL E.P a ⟨o', nx'⟩ fn.results.toList) (fun vs => ∀ o'', (∀ t, t ∉ viewTags o' vDepth (tup1 vs) → o'' t = o' t) → K (view o' vDepth (tup1 vs), ⟨o'', nx'⟩)))) : wO (Option.map (fun p => freezeR true p.1 p.2) (runP E cr k nz fn args ⟨o, nx⟩)) K := by
  obtain ⟨v, H', h1, h2⟩ := runPR_of_WP (Post := fun v o' nx' => ∀ o'', (∀ t, t ∉ viewTags o' vDepth v → o'' t = o' t) → K (view o' vDepth v, ⟨o'', nx'⟩)) hb h
  rw [h1]
  show K (freezeR true v H')
  unfold freezeR
  rw [if_pos rfl]
  obtain ⟨o', nx'⟩ := H'
  by_cases hf : flat v
  · rw [if_pos hf]
    exact h2 _ (fun _ _ => rfl)
  · rw [if_neg hf]
    exact h2 _ (fun t ht => sealed_out ht)
theorem cRel_callF {R : RRel} {args : List AV} {H : AH} {K : AV × AH → Prop} (h1 : ∃ v H', R args H v H') (h2 : ∀ v H' o'', R args H v H' → (∀ t, t ∉ viewTags H'.o vDepth v → o'' t = H'.o t) → K (view H'.o vDepth v, ⟨o'', H'.nx⟩)) : wO (Option.map (fun p => freezeR true p.1 p.2) (cRel R args H)) K := by
  obtain ⟨v, H', h⟩ := h1
  have e : ∃ p : AV × AH, R args H p.1 p.2 := ⟨(v, H'), h⟩
  have e2 : cRel R args H = some e.choose := by unfold cRel; rw [dif_pos e]
  rw [e2]
  have h3 := e.choose_spec
  generalize e.choose = p at *
  obtain ⟨v, o', nx'⟩ := p
  show K (freezeR true v ⟨o', nx'⟩)
  unfold freezeR
  rw [if_pos rfl]
  by_cases hf : flat v
  · rw [if_pos hf]
    exact h2 _ _ _ h3 (fun _ _ => rfl)
  · rw [if_neg hf]
    exact h2 _ _ _ h3 (fun t ht => sealed_out ht)
/-! ### the reader's row -/
abbrev rdP (r : Nat) : AV := .ptr (r, 13) (r, 13) 0
structure Rdr (o : Ob) (nx r : Nat) (s : List UInt8) (P d e : Int) : Prop where
  lt : r < nx
  row : o (r, 13) = some (.row ⟨77, 1, (r, 13), false, true, [.str s, .int .i64 P, .int .i64 d, .int .i64 e]⟩)
def KeepR (r nx : Nat) (o o' : Ob) : Prop := ∀ i k, i < nx → (i, k) ≠ (r, 13) → o' (i, k) = o (i, k)
theorem KeepR.refl (r nx o) : KeepR r nx o o := fun _ _ _ _ => rfl
theorem KeepR.trans {r nx nx' o o' o''} (h1 : KeepR r nx o o') (h2 : KeepR r nx' o' o'') (h : nx ≤ nx') : KeepR r nx o o'' := fun i k a b => by rw [h2 i k (by omega) b, h1 i k a b]
theorem KeepR.up {r nx nx' o o'} (h : KeepR r nx' o o') (hn : nx ≤ nx') : KeepR r nx o o' := fun i k a b => h i k (by omega) b
theorem Rdr.to {o nx r s P d e o' nx' P' d' e'} (h : Rdr o nx r s P d e) (hn : nx ≤ nx') (ho : o' (r, 13) = some (.row ⟨77, 1, (r, 13), false, true, [.str s, .int .i64 P', .int .i64 d', .int .i64 e']⟩)) : Rdr o' nx' r s P' d' e' := ⟨by have := h.lt; omega, ho⟩
theorem Rdr.inj {o nx nx' r s P d e s' P' d' e'} (h : Rdr o nx r s P d e) (h' : Rdr o nx' r s' P' d' e') : s = s' ∧ P = P' ∧ d = d' ∧ e = e' := by
  have := h.row.symm.trans h'.row
  simp only [Option.some.injEq, AObj.row.injEq, Row.mk.injEq, List.cons.injEq, AV.str.injEq, AV.int.injEq, and_true, true_and] at this
  exact this
/-! ### next -/
def nextN (s : List UInt8) (P e : Int) : List AV := if (s.length : Int) ≤ P ∨ e ≠ 0 then [.int .u8 0, .bool false] else [.int .u8 (byteN s P), .bool true]
def RNx (args : List AV) (r : AV) : Prop := ∃ s P d e, (0 ≤ P ∨ e ≠ 0) ∧ args = [.fptr [.str s, .int .i64 P, .int .i64 d, .int .i64 e]] ∧ r = .tup (nextN s P e)
theorem RNx_fn : Fun1 RNx := by
  rintro args r r' ⟨s, P, d, e, _, rfl, rfl⟩ ⟨s', P', d', e', _, h, rfl⟩
  simp only [List.cons.injEq, AV.fptr.injEq, AV.str.injEq, AV.int.injEq, and_true, true_and] at h
  rw [h.1, h.2.1, h.2.2.2]
theorem lookNext (X) : lookedAt (EX md0 X) (fun _ => none) 1 Tryd.f52 = true := by kernel_rfl
theorem next_ok (args r) (h : RNx args r) : Ok Tryd.prog 52 args r := by
  obtain ⟨s, P, d, e, hP, rfl, rfl⟩ := h
  refine ok_of_WP (E := EX md0 (fun _ _ => none)) (cp_none _) (noR_ok _) mixed (k := 0) Tryd.func52 (lookNext _) rfl ?_
  simp only [Tryd.f52, Option.getD_some, nextN]
  by_cases h1 : (s.length : Int) ≤ P
  · rw [if_pos (.inl h1)]
    simp (disch := omega) only [go_sem, ↓IntWalk.iteOmega, IntWalk.toNatUp, Nat.reduceEqDiff, Nat.reduceAdd, Nat.reduceMul, Nat.reduceSub, Nat.reduceLT, Nat.reduceLeDiff, Int.reduceToNat, Int.reduceLT, Int.reduceLE, Int.reduceEq, Int.reduceAdd, Int.reduceSub, Int.reduceMul, Int.toNat_natCast, reduceCtorEq, decide_true, decide_false, IntWalk.i64_in, IntWalk.u64_in, IntWalk.u8_in, h1]
  · by_cases h2 : e = 0
    · subst h2
      rw [if_neg (by omega)]
      obtain ⟨c, hc, hb⟩ := byte_at (by omega) h1
      rw [hb]
      simp (disch := omega) only [go_sem, ↓IntWalk.iteOmega, IntWalk.toNatUp, Nat.reduceEqDiff, Nat.reduceAdd, Nat.reduceMul, Nat.reduceSub, Nat.reduceLT, Nat.reduceLeDiff, Int.reduceToNat, Int.reduceLT, Int.reduceLE, Int.reduceEq, Int.reduceAdd, Int.reduceSub, Int.reduceMul, Int.toNat_natCast, reduceCtorEq, decide_true, decide_false, IntWalk.i64_in, IntWalk.u64_in, IntWalk.u8_in, h1, hc]
    · rw [if_pos (.inr h2)]
      simp (disch := omega) only [go_sem, ↓IntWalk.iteOmega, IntWalk.toNatUp, Nat.reduceEqDiff, Nat.reduceAdd, Nat.reduceMul, Nat.reduceSub, Nat.reduceLT, Nat.reduceLeDiff, Int.reduceToNat, Int.reduceLT, Int.reduceLE, Int.reduceEq, Int.reduceAdd, Int.reduceSub, Int.reduceMul, Int.toNat_natCast, reduceCtorEq, decide_true, decide_false, IntWalk.i64_in, IntWalk.u64_in, IntWalk.u8_in, h1, h2]
/-! ### mode -/
theorem mode_all : ((List.range 256).map fun c => (calls E4 1000).1 68 [.int .u8 ((c : Nat) : Int)]) = (List.range 256).map fun c => some (.int .i64 (signN ((c : Nat) : Int))) := by kernel_rfl
def RMd (args : List AV) (r : AV) : Prop := ∃ c : UInt8, args = [.int .u8 c.toNat] ∧ r = .int .i64 (signN c.toNat)
theorem RMd_fn : Fun1 RMd := by
  rintro args r r' ⟨c, rfl, rfl⟩ ⟨c', h, rfl⟩
  simp only [List.cons.injEq, AV.int.injEq, and_true, true_and] at h
  rw [h]
theorem RMd_ok (args r) (h : RMd args r) : Ok Tryd.prog 68 args r := by
  obtain ⟨c, rfl, rfl⟩ := h
  exact ok_calls (E := E4) ext4_ok mixed (map_at mode_all c.toNat_lt)
noncomputable def XRd : FuncId → List AV → Option AV := tabLook [(52, tRel RNx), (68, tRel RMd)]
theorem XRd_ok : CPSound Tryd.prog XRd := tab_cons (tab_cons (tab_nil _) (tRel_ok RMd_ok)) (tRel_ok next_ok)
theorem XRd_next (s P d e) (h : 0 ≤ P ∨ e ≠ 0) : XRd 52 [.fptr [.str s, .int .i64 P, .int .i64 d, .int .i64 e]] = some (.tup (nextN s P e)) := tRel_eq RNx_fn ⟨s, P, d, e, h, rfl, rfl⟩
theorem XRd_mode (c : UInt8) : XRd 68 [.int .u8 c.toNat] = some (.int .i64 (signN c.toNat)) := tRel_eq RMd_fn ⟨c, rfl, rfl⟩
theorem next_end {s : List UInt8} {P e : Int} (h : (s.length : Int) ≤ P ∨ e ≠ 0) : nextN s P e = [.int .u8 0, .bool false] := if_pos h
theorem next_at {s : List UInt8} {P : Int} (h : ¬ (s.length : Int) ≤ P) : nextN s P 0 = [.int .u8 (byteN s P), .bool true] := if_neg (by omega)
/-! ### fail -/
theorem lookFail (X) : lookedAt (EX md0 X) (fun _ => none) 2 Tryd.f43 = true := by kernel_rfl
noncomputable def cFail (args : List AV) (H : AH) : Option (AV × AH) := if args.length = 2 then runP (EX md0 (fun _ _ => none)) noR 0 (fun _ => none) Tryd.f43 args H else none
theorem cFail_ok (args H v H') (h : cFail args H = some (v, H')) : OkR Tryd.prog 43 args H v H' := by
  unfold cFail at h
  split at h
  · rename_i hn
    exact okR_run (E := EX md0 (fun _ _ => none)) (cp_none _) (noR_ok Tryd.prog).1 (noR_ok Tryd.prog).2 mixed Tryd.func43 (by rw [hn]; exact lookFail _) h
  · cases h
theorem keepR_upd {r nx : Nat} {o : Ob} {x} : KeepR r nx o (upd o (r, 13) x) := fun i k _ h => upd_off h
theorem keepR_new {r nx i j : Nat} {o o' : Ob} {x} (h : KeepR r nx o o') (hi : nx ≤ i) : KeepR r nx o (upd o' (i, j) x) := fun i' k' h1 h2 => by
  rw [upd_off (by intro e; cases e; omega)]
  exact h i' k' h1 h2
theorem keepR_own {r nx : Nat} {o o' : Ob} {x} (h : KeepR r nx o o') : KeepR r nx o (upd o' (r, 13) x) := fun i' k' h1 h2 => by
  rw [upd_off h2]
  exact h i' k' h1 h2
theorem fail_call {r nx : Nat} {o : Ob} {s P d e e'} {K : AV × AH → Prop} (h : Rdr o nx r s P d e) (hK : ∀ o' nx', nx ≤ nx' → KeepR r nx o o' → Rdr o' nx' r s P d (if e = 0 then e' else e) → K (nodeV zeroN, ⟨o', nx'⟩)) :
    wO (Option.map (fun p => freezeR true p.1 p.2) (cFail [rdP r, .int .i64 e'] ⟨o, nx⟩)) K := by
  have h1 := h.lt
  have h2 := h.row
  refine runP_callF (fn := Tryd.f43) (c := Tryd.f43.body.getD .skip) rfl ?_
  simp only [Tryd.f43, Option.getD_some]
  by_cases he : e = 0
  · subst he
    rw [if_pos rfl] at hK
    simp (disch := omega) only [go_sem, ↓IntWalk.iteOmega, IntWalk.toNatUp, Nat.reduceEqDiff, Nat.reduceAdd, Nat.reduceMul, Nat.reduceSub, Nat.reduceLT, Nat.reduceLeDiff, Int.reduceToNat, Int.reduceLT, Int.reduceLE, Int.reduceEq, Int.reduceAdd, Int.reduceSub, Int.reduceMul, Int.toNat_natCast, reduceCtorEq, decide_true, decide_false, IntWalk.i64_in, IntWalk.u64_in, IntWalk.u8_in, h2]
    intro o'' ho
    obtain rfl := funext fun t => ho t (by simp)
    exact hK _ _ (by omega) (keepR_new (keepR_own (keepR_new (KeepR.refl _ _ _) (Nat.le_refl _))) (Nat.le_refl _)) (h.to (by omega) (by simp [upd_app]))
  · rw [if_neg he] at hK
    simp (disch := omega) only [go_sem, ↓IntWalk.iteOmega, IntWalk.toNatUp, Nat.reduceEqDiff, Nat.reduceAdd, Nat.reduceMul, Nat.reduceSub, Nat.reduceLT, Nat.reduceLeDiff, Int.reduceToNat, Int.reduceLT, Int.reduceLE, Int.reduceEq, Int.reduceAdd, Int.reduceSub, Int.reduceMul, Int.toNat_natCast, reduceCtorEq, decide_true, decide_false, IntWalk.i64_in, IntWalk.u64_in, IntWalk.u8_in, h2, he]
    intro o'' ho
    obtain rfl := funext fun t => ho t (by simp)
    exact hK _ _ (by omega) (keepR_new (keepR_new (KeepR.refl _ _ _) (Nat.le_refl _)) (Nat.le_refl _)) (h.to (by omega) (by simp [upd_app, h2]))
end Go.Proofs.YtmcbfbpdfbcakaaDoor.A
/- The document's reader: class, times. -/
namespace Go.Proofs.YtmcbfbpdfbcakaaDoor.A
open Go
set_option maxRecDepth 20000
noncomputable def crF : CallR := tabLookR [(43, cFail)]
theorem crF_ok : CRSound Tryd.prog crF ∧ Up crF := tabR_cons (tabR_nil _) cFail_ok
theorem crF_fail : crF 43 = cFail := rfl
/-! ### class -/
theorem lookDCls (X) : lookedAt (EX md0 X) (fun _ => none) 1 Tryd.f69 = true := by kernel_rfl
noncomputable def cDCls (args : List AV) (H : AH) : Option (AV × AH) := if args.length = 1 then runP (EX md0 XRd) crF 1000 (fun _ => none) Tryd.f69 args H else none
theorem cDCls_ok (args H v H') (h : cDCls args H = some (v, H')) : OkR Tryd.prog 69 args H v H' := by
  unfold cDCls at h
  split at h
  · rename_i hn
    exact okR_run (E := EX md0 XRd) XRd_ok crF_ok.1 crF_ok.2 mixed Tryd.func69 (by rw [hn]; exact lookDCls _) h
  · cases h
theorem dcls_call {r nx : Nat} {o : Ob} {s : List UInt8} {P d : Int} {K : AV × AH → Prop} (h : Rdr o nx r s P d 0) (hP : 0 ≤ P) (hP' : P ≤ s.length) (hs : s.length ≤ 200)
    (hK : ∀ o' nx', nx ≤ nx' → KeepR r nx o o' → (∀ q, q = classF s (s.length - P.toNat) P 0 → (q.2.1 = true → Rdr o' nx' r s (q.2.2 + 1) d 0 → K (nodeV (.mk 1 q.1 0 0 []), ⟨o', nx'⟩)) ∧ (q.2.1 = false → Rdr o' nx' r s q.2.2 d 3 → K (nodeV zeroN, ⟨o', nx'⟩)))) :
    wO (Option.map (fun p => freezeR true p.1 p.2) (cDCls [rdP r] ⟨o, nx⟩)) K := by
  have hrow := h.row
  have hlt0 := h.lt
  refine runP_callF (fn := Tryd.f69) (c := Tryd.f69.body.getD .skip) rfl ?_
  simp only [Tryd.f69, Option.getD_some]
  simp (disch := omega) only [go_sem, ↓IntWalk.iteOmega, IntWalk.toNatUp, Nat.reduceEqDiff, Nat.reduceAdd, Nat.reduceMul, Nat.reduceSub, Nat.reduceLT, Nat.reduceLeDiff, Int.reduceToNat, Int.reduceLT, Int.reduceLE, Int.reduceEq, Int.reduceAdd, Int.reduceSub, Int.reduceMul, Int.toNat_natCast, reduceCtorEq, decide_true, decide_false, IntWalk.i64_in, IntWalk.u64_in, IntWalk.u8_in]
  generalize hR : classF s (s.length - P.toNat) P 0 = R at hK
  refine WP_loop (fun m a o1 nx1 => ∃ (x out : Int), P ≤ x ∧ x ≤ s.length ∧ m = s.length - x.toNat ∧ nx + 1 ≤ nx1 ∧ a 0 = rdP r ∧ a 2 = .ptr (nx, 2) (nx, 2) 0 ∧ a 3 = .int .i64 out ∧ 0 ≤ out ∧ out ≤ 31 ∧ Rdr o1 nx1 r s x d 0 ∧ KeepR r nx o o1 ∧ o1 (nx, 2) = some (.row ⟨29, 1, (nx, 2), false, true, nd0⟩) ∧ classF s (s.length - x.toNat) x out = R) (s.length - P.toNat) ?_ ?_ ?_
  · omega
  · exact ⟨P, 0, by omega, hP', rfl, by omega, by simp (disch := omega) only [go_sem, ↓IntWalk.iteOmega, IntWalk.toNatUp, Nat.reduceEqDiff, Nat.reduceAdd, Nat.reduceMul, Nat.reduceSub, Nat.reduceLT, Nat.reduceLeDiff, Int.reduceToNat, Int.reduceLT, Int.reduceLE, Int.reduceEq, Int.reduceAdd, Int.reduceSub, Int.reduceMul, Int.toNat_natCast, reduceCtorEq, decide_true, decide_false, IntWalk.i64_in, IntWalk.u64_in, IntWalk.u8_in], by simp (disch := omega) only [go_sem, ↓IntWalk.iteOmega, IntWalk.toNatUp, Nat.reduceEqDiff, Nat.reduceAdd, Nat.reduceMul, Nat.reduceSub, Nat.reduceLT, Nat.reduceLeDiff, Int.reduceToNat, Int.reduceLT, Int.reduceLE, Int.reduceEq, Int.reduceAdd, Int.reduceSub, Int.reduceMul, Int.toNat_natCast, reduceCtorEq, decide_true, decide_false, IntWalk.i64_in, IntWalk.u64_in, IntWalk.u8_in], by simp (disch := omega) only [go_sem, ↓IntWalk.iteOmega, IntWalk.toNatUp, Nat.reduceEqDiff, Nat.reduceAdd, Nat.reduceMul, Nat.reduceSub, Nat.reduceLT, Nat.reduceLeDiff, Int.reduceToNat, Int.reduceLT, Int.reduceLE, Int.reduceEq, Int.reduceAdd, Int.reduceSub, Int.reduceMul, Int.toNat_natCast, reduceCtorEq, decide_true, decide_false, IntWalk.i64_in, IntWalk.u64_in, IntWalk.u8_in], by omega, by omega, h.to (by omega) (by simp [upd_app, hrow]), keepR_new (KeepR.refl _ _ _) (Nat.le_refl _), by simp (disch := omega) only [go_sem, ↓IntWalk.iteOmega, IntWalk.toNatUp, Nat.reduceEqDiff, Nat.reduceAdd, Nat.reduceMul, Nat.reduceSub, Nat.reduceLT, Nat.reduceLeDiff, Int.reduceToNat, Int.reduceLT, Int.reduceLE, Int.reduceEq, Int.reduceAdd, Int.reduceSub, Int.reduceMul, Int.toNat_natCast, reduceCtorEq, decide_true, decide_false, IntWalk.i64_in, IntWalk.u64_in, IntWalk.u8_in], hR⟩
  · rintro m a o1 nx1 ⟨x, out, x1, x2, rfl, hnx, a0, a2, a3, o1', o2', hS, hkp, hres, hR'⟩
    have h2 := hS.row
    have hrlt := hS.lt
    have hnext := XRd_next s x d 0 (by omega)
    by_cases hlt : x < s.length
    · obtain ⟨c, hc, hbt⟩ := byte_at (a := x) (by omega) (by omega : ¬ (s.length : Int) ≤ x)
      rw [next_at (by omega), hbt] at hnext
      have hmd := XRd_mode c
      obtain ⟨m', hm'⟩ : ∃ m', s.length - x.toNat = m' + 1 := ⟨s.length - x.toNat - 1, by omega⟩
      rw [hm', classF, hbt] at hR'
      have hlt4 := signN_lt c.toNat
      by_cases hs1 : signN c.toNat < 0
      · rw [if_pos hs1] at hR'
        have hc93 : (c = 93) ↔ ((c.toNat : Int) = 93) := by rw [← UInt8.toNat_inj]; show c.toNat = 93 ↔ _; omega
        have hfin : ∀ (o2 : Ob) (nx2 : Nat), nx1 ≤ nx2 → KeepR r nx1 o1 o2 → Rdr o2 nx2 r s x d 3 → R = (out, false, x) → K (nodeV zeroN, ⟨upd o2 (nx, 2) (.row ⟨29, 1, (nx, 2), false, true, cNd zeroN⟩), nx2⟩) := fun o2 nx2 g1 g2 g3 g4 => by
          refine (hK _ nx2 (by omega) (keepR_new (hkp.trans g2 (by omega)) (Nat.le_refl _)) R rfl).2 (by rw [g4]) ?_
          rw [g4]
          exact g3.to (Nat.le_refl _) (by rw [upd_off (by simp)]; exact g3.row)
        by_cases hs2 : (c.toNat : Int) = 93
        · rw [hs2] at hmd hs1
          by_cases hs3 : 0 < out
          · have hb : (decide (0 < out) && decide ((c.toNat : Int) = 93)) = true := by rw [decide_eq_true hs3, decide_eq_true hs2]; rfl
            rw [hb] at hR'
            simp (disch := omega) only [go_sem, ↓IntWalk.iteOmega, IntWalk.toNatUp, Nat.reduceEqDiff, Nat.reduceAdd, Nat.reduceMul, Nat.reduceSub, Nat.reduceLT, Nat.reduceLeDiff, Int.reduceToNat, Int.reduceLT, Int.reduceLE, Int.reduceEq, Int.reduceAdd, Int.reduceSub, Int.reduceMul, Int.toNat_natCast, reduceCtorEq, decide_true, decide_false, IntWalk.i64_in, IntWalk.u64_in, IntWalk.u8_in, a0, a2, a3, h2, hnext, hmd, hs1, hs2, hs3, crF_fail, hres]
            intro o'' ho
            obtain rfl := funext fun t => ho t (by simp)
            have hk1 : KeepR r nx o (upd (upd o1 (r, 13) (.row ⟨77, 1, (r, 13), false, true, [.str s, .int .i64 (x + 1), .int .i64 d, .int .i64 0]⟩)) (nx, 2) (.row ⟨29, 1, (nx, 2), false, true, [.int .i64 1, .int .i64 out, .int .i64 0, .int .i64 0, .nil]⟩)) := keepR_new (keepR_own hkp) (Nat.le_refl _)
            have := (hK _ (nx1 + 1 + 1 + 1 + 1) (by omega) hk1 R rfl).1 (by rw [← hR'])
            rw [← hR', nodeV, cNd_mk, slN, cNds_nil] at this
            exact this (h.to (by omega) (by rw [upd_off (by simp), upd_same]))
          · have hb : (decide (0 < out) && decide ((c.toNat : Int) = 93)) = false := by rw [decide_eq_false hs3]; rfl
            rw [hb] at hR'
            simp (disch := omega) only [go_sem, ↓IntWalk.iteOmega, IntWalk.toNatUp, Nat.reduceEqDiff, Nat.reduceAdd, Nat.reduceMul, Nat.reduceSub, Nat.reduceLT, Nat.reduceLeDiff, Int.reduceToNat, Int.reduceLT, Int.reduceLE, Int.reduceEq, Int.reduceAdd, Int.reduceSub, Int.reduceMul, Int.toNat_natCast, reduceCtorEq, decide_true, decide_false, IntWalk.i64_in, IntWalk.u64_in, IntWalk.u8_in, a0, a2, a3, h2, hnext, hmd, hs1, hs2, hs3, crF_fail, hres]
            refine fail_call ⟨by omega, h2⟩ (fun o2 nx2 g1 g2 g3 => ?_)
            have hres2 : o2 (nx, 2) = _ := (g2 nx 2 (by omega) (by simp)).trans hres
            simp (disch := omega) only [go_sem, ↓IntWalk.iteOmega, IntWalk.toNatUp, Nat.reduceEqDiff, Nat.reduceAdd, Nat.reduceMul, Nat.reduceSub, Nat.reduceLT, Nat.reduceLeDiff, Int.reduceToNat, Int.reduceLT, Int.reduceLE, Int.reduceEq, Int.reduceAdd, Int.reduceSub, Int.reduceMul, Int.toNat_natCast, reduceCtorEq, decide_true, decide_false, IntWalk.i64_in, IntWalk.u64_in, IntWalk.u8_in, a0, a2, a3, hres2]
            intro o'' ho
            obtain rfl := funext fun t => ho t (by simp)
            have := hfin o2 nx2 (by omega) (g2.up (by omega)) g3 hR'.symm
            simpa only [nodeV, cNd_mk, slN, cNds_nil, List.length_nil] using this
        · have hb : (decide (0 < out) && decide ((c.toNat : Int) = 93)) = false := by rw [decide_eq_false hs2, Bool.and_false]
          rw [hb] at hR'
          simp (disch := omega) only [go_sem, ↓IntWalk.iteOmega, IntWalk.toNatUp, Nat.reduceEqDiff, Nat.reduceAdd, Nat.reduceMul, Nat.reduceSub, Nat.reduceLT, Nat.reduceLeDiff, Int.reduceToNat, Int.reduceLT, Int.reduceLE, Int.reduceEq, Int.reduceAdd, Int.reduceSub, Int.reduceMul, Int.toNat_natCast, reduceCtorEq, decide_true, decide_false, IntWalk.i64_in, IntWalk.u64_in, IntWalk.u8_in, a0, a2, a3, h2, hnext, hmd, hs1, hs2, crF_fail, hres]
          refine fail_call ⟨by omega, h2⟩ (fun o2 nx2 g1 g2 g3 => ?_)
          have hres2 : o2 (nx, 2) = _ := (g2 nx 2 (by omega) (by simp)).trans hres
          simp (disch := omega) only [go_sem, ↓IntWalk.iteOmega, IntWalk.toNatUp, Nat.reduceEqDiff, Nat.reduceAdd, Nat.reduceMul, Nat.reduceSub, Nat.reduceLT, Nat.reduceLeDiff, Int.reduceToNat, Int.reduceLT, Int.reduceLE, Int.reduceEq, Int.reduceAdd, Int.reduceSub, Int.reduceMul, Int.toNat_natCast, reduceCtorEq, decide_true, decide_false, IntWalk.i64_in, IntWalk.u64_in, IntWalk.u8_in, a0, a2, a3, hres2]
          intro o'' ho
          obtain rfl := funext fun t => ho t (by simp)
          have := hfin o2 nx2 (by omega) (g2.up (by omega)) g3 hR'.symm
          simpa only [nodeV, cNd_mk, slN, cNds_nil, List.length_nil] using this
      · rw [if_neg hs1] at hR'
        have hin := orN_in o1' o2' (by omega : 0 ≤ signN c.toNat) hlt4
        have h93 : ¬ (c.toNat : Int) = 93 := fun e => hs1 (by rw [e]; decide)
        have hconv : IntKind.u64.wrap (signN c.toNat) = signN c.toNat := IntWalk.u64_in _ (by omega)
        simp (disch := omega) only [go_sem, ↓IntWalk.iteOmega, IntWalk.toNatUp, Nat.reduceEqDiff, Nat.reduceAdd, Nat.reduceMul, Nat.reduceSub, Nat.reduceLT, Nat.reduceLeDiff, Int.reduceToNat, Int.reduceLT, Int.reduceLE, Int.reduceEq, Int.reduceAdd, Int.reduceSub, Int.reduceMul, Int.toNat_natCast, reduceCtorEq, decide_true, decide_false, IntWalk.i64_in, IntWalk.u64_in, IntWalk.u8_in, a0, a2, a3, h2, hnext, hmd, hs1, h93, crF_fail, hres, hconv]
        refine ⟨_, ?_, x + 1, _, by omega, by omega, rfl, by omega, rfl, hin.1, hin.2, h.to (by omega) (upd_same _ _ _), keepR_own hkp, ?_⟩
        · omega
        · have : s.length - (x + 1).toNat = m' := by omega
          rw [this]
          exact hR'
    · have hxe : x = s.length := by omega
      have hm0 : s.length - x.toNat = 0 := by omega
      rw [hm0, classF] at hR'
      rw [next_end (.inl (by omega))] at hnext
      simp (disch := omega) only [go_sem, ↓IntWalk.iteOmega, IntWalk.toNatUp, Nat.reduceEqDiff, Nat.reduceAdd, Nat.reduceMul, Nat.reduceSub, Nat.reduceLT, Nat.reduceLeDiff, Int.reduceToNat, Int.reduceLT, Int.reduceLE, Int.reduceEq, Int.reduceAdd, Int.reduceSub, Int.reduceMul, Int.toNat_natCast, reduceCtorEq, decide_true, decide_false, IntWalk.i64_in, IntWalk.u64_in, IntWalk.u8_in, a0, a2, a3, h2, hnext, crF_fail, hres]
      refine fail_call ⟨by omega, h2⟩ (fun o2 nx2 g1 g2 g3 => ?_)
      have hres2 : o2 (nx, 2) = _ := (g2 nx 2 (by omega) (by simp)).trans hres
      simp (disch := omega) only [go_sem, ↓IntWalk.iteOmega, IntWalk.toNatUp, Nat.reduceEqDiff, Nat.reduceAdd, Nat.reduceMul, Nat.reduceSub, Nat.reduceLT, Nat.reduceLeDiff, Int.reduceToNat, Int.reduceLT, Int.reduceLE, Int.reduceEq, Int.reduceAdd, Int.reduceSub, Int.reduceMul, Int.toNat_natCast, reduceCtorEq, decide_true, decide_false, IntWalk.i64_in, IntWalk.u64_in, IntWalk.u8_in, a0, a2, a3, hres2]
      intro o'' ho
      obtain rfl := funext fun t => ho t (by simp)
      have := (hK (upd o2 (nx, 2) (.row ⟨29, 1, (nx, 2), false, true, cNd zeroN⟩)) nx2 (by omega) (keepR_new (hkp.trans g2 (by omega)) (Nat.le_refl _)) R rfl).2 (by rw [← hR']) (by rw [← hR']; exact g3.to (Nat.le_refl _) (by rw [upd_off (by simp)]; exact g3.row))
      simpa only [nodeV, cNd_mk, slN, cNds_nil, List.length_nil] using this
end Go.Proofs.YtmcbfbpdfbcakaaDoor.A
/- The document's reader: nodes in rows; times. -/
namespace Go.Proofs.YtmcbfbpdfbcakaaDoor.A
open Go
set_option maxRecDepth 20000
/-- A node that a piece has laid rows around. -/
inductive WNd (o : Ob) (b nx : Nat) : Nat → List AV → Nd → Prop
  | data (d : Nat) (n : Nd) : WNd o b nx d (cNd n) n
  | beh (d i j : Nat) (g : Tag) (ro : Bool) (k : Int) (x : Nd) (cs : List AV) : b ≤ i → i < nx → (j = 21 ∨ j = 26 ∨ j = 31) → o (i, j) = some (.row ⟨29, 5, g, ro, true, cs⟩) → WNd o b nx d cs x →
    WNd o b nx (d + 1) [.int .i64 k, .int .i64 0, .int .i64 0, .int .i64 0, .ref (i, j) g 0 1] (.mk k 0 0 0 [x])
theorem WNd.keep {o o' : Ob} {b nx nx' d : Nat} {cs : List AV} {n : Nd} (h : WNd o b nx d cs n) (hn : nx ≤ nx') (hk : ∀ i j, b ≤ i → i < nx → (j = 21 ∨ j = 26 ∨ j = 31) → o' (i, j) = o (i, j)) : WNd o' b nx' d cs n := by
  induction h with
  | data d n => exact .data d n
  | beh d i j g ro k x cs h1 h2 hj h3 _ ih => exact .beh d i j g ro k x cs h1 (by omega) hj (by rw [hk i j h1 h2 hj]; exact h3) ih
theorem WNd.up {o : Ob} {b nx d d' : Nat} {cs : List AV} {n : Nd} (h : WNd o b nx d cs n) (hd : d ≤ d') : WNd o b nx d' cs n := by
  induction h generalizing d' with
  | data d n => exact .data d' n
  | beh d i j g ro k x cs h1 h2 hj h3 _ ih =>
    obtain ⟨e, rfl⟩ : ∃ e, d' = e + 1 := ⟨d' - 1, by omega⟩
    exact .beh e i j g ro k x cs h1 h2 hj h3 (ih (by omega))
theorem WNd.length {o : Ob} {b nx d : Nat} {cs : List AV} {n : Nd} (h : WNd o b nx d cs n) : cs.length = 5 := by
  cases h with
  | data => exact cNd_length n
  | beh => rfl
theorem WNd.ok {o : Ob} {b nx d : Nat} {cs : List AV} {n : Nd} (h : WNd o b nx d cs n) : cs.all cellOk = true := by
  cases h with
  | data => exact cNd_ok n
  | beh => rfl
theorem WNd.view {o : Ob} {b nx d : Nat} {cs : List AV} {n : Nd} (h : WNd o b nx d cs n) : ∀ e, d < e → cs.map (A.view o e) = cNd n := by
  induction h with
  | data d n => intro e _; exact view_cNd o e n
  | beh d i j g ro k x cs h1 h2 hj h3 hc ih =>
    intro e he
    obtain ⟨e, rfl⟩ : ∃ e', e = e' + 1 := ⟨e - 1, by omega⟩
    have hl := hc.length
    have hv := ih e (by omega)
    have htk : cs.take 5 = cs := take_len hl
    rw [cNd_mk, slN, cNds_one]
    simp (disch := omega) only [go_sem, ↓IntWalk.iteOmega, IntWalk.toNatUp, Nat.reduceEqDiff, Nat.reduceAdd, Nat.reduceMul, Nat.reduceSub, Nat.reduceLT, Nat.reduceLeDiff, Int.reduceToNat, Int.reduceLT, Int.reduceLE, Int.reduceEq, Int.reduceAdd, Int.reduceSub, Int.reduceMul, Int.toNat_natCast, reduceCtorEq, decide_true, decide_false, IntWalk.i64_in, IntWalk.u64_in, IntWalk.u8_in, h3, hl, htk, hv]
theorem WNd.tags {o : Ob} {b nx d : Nat} {cs : List AV} {n : Nd} (h : WNd o b nx d cs n) : ∀ e (t : Tag), t ∈ cs.flatMap (viewTags o e) → b ≤ t.1 ∧ t.1 < nx ∧ (t.2 = 21 ∨ t.2 = 26 ∨ t.2 = 31) := by
  induction h with
  | data d n => intro e t ht; rw [tags_cNd] at ht; cases ht
  | beh d i j g ro k x cs h1 h2 hj h3 hc ih =>
    intro e t ht
    cases e with
    | zero => simp [viewTags] at ht
    | succ e =>
      have hl := hc.length
      have htk : cs.take 5 = cs := take_len hl
      simp (disch := omega) only [go_sem, ↓IntWalk.iteOmega, IntWalk.toNatUp, Nat.reduceEqDiff, Nat.reduceAdd, Nat.reduceMul, Nat.reduceSub, Nat.reduceLT, Nat.reduceLeDiff, Int.reduceToNat, Int.reduceLT, Int.reduceLE, Int.reduceEq, Int.reduceAdd, Int.reduceSub, Int.reduceMul, Int.toNat_natCast, reduceCtorEq, decide_true, decide_false, IntWalk.i64_in, IntWalk.u64_in, IntWalk.u8_in, h3, htk] at ht
      have ht' : t = (i, j) ∨ t ∈ cs.flatMap (viewTags o e) := by simpa using ht
      rcases ht' with rfl | ht'
      · exact ⟨h1, h2, hj⟩
      · have := ih e t ht'
        exact this
/-! ### times -/
def KeepX (r b nx : Nat) (o o' : Ob) : Prop := ∀ i k, i < nx → (i, k) ≠ (r, 13) → ¬ (b ≤ i ∧ (k = 21 ∨ k = 26 ∨ k = 31)) → o' (i, k) = o (i, k)
theorem KeepR.x {r b nx o o'} (h : KeepR r nx o o') : KeepX r b nx o o' := fun i k h1 h2 _ => h i k h1 h2
theorem lookDTms (X) : lookedAt (EX md0 X) (fun _ => none) 2 Tryd.f64 = true := by kernel_rfl
noncomputable def cDTms (args : List AV) (H : AH) : Option (AV × AH) := if args.length = 2 then runP (EX md0 XRd) crF 1000 (fun _ => none) Tryd.f64 args H else none
theorem cDTms_ok (args H v H') (h : cDTms args H = some (v, H')) : OkR Tryd.prog 64 args H v H' := by
  unfold cDTms at h
  split at h
  · rename_i hn
    exact okR_run (E := EX md0 XRd) XRd_ok crF_ok.1 crF_ok.2 mixed Tryd.func64 (by rw [hn]; exact lookDTms _) h
  · cases h
theorem digit_of {s : List UInt8} {a : Int} {c : UInt8} (h : ¬ (s.length : Int) ≤ a) (hb : byteN s a = c.toNat) : digitN s a = if 48 ≤ (c.toNat : Int) ∧ (c.toNat : Int) ≤ 57 then (c.toNat : Int) - 48 else -1 := by
  rw [digitN, if_neg h, hb]
set_option maxHeartbeats 2000000 in
theorem dtms_call {r nx b D : Nat} {o : Ob} {s : List UInt8} {at_ d : Int} {cs : List AV} {n : Nd} {K : AV × AH → Prop} (h : Rdr o nx r s (at_ + 1) d 0) (h0 : 0 ≤ at_) (h1 : at_ + 1 ≤ s.length) (hs : s.length ≤ 200) (hn : WNd o b nx D cs n) (hD : D ≤ 1000) (hbn : b ≤ nx)
    (hK : ∀ o' nx', nx ≤ nx' → KeepX r b nx o o' → (∀ T, T = timesN s at_ → (0 ≤ T.2.2 → Rdr o' nx' r s T.2.2 d 3 → K (nodeV zeroN, ⟨o', nx'⟩)) ∧ (¬ 0 ≤ T.2.2 → Rdr o' nx' r s (at_ + 5) d 0 → K (nodeV (.mk 9 0 T.1 T.2.1 [n]), ⟨o', nx'⟩)))) :
    wO (Option.map (fun p => freezeR true p.1 p.2) (cDTms [rdP r, .agg cs] ⟨o, nx⟩)) K := by
  have hrow := h.row
  have hlt0 := h.lt
  have hc5 := hn.length
  have hcok := hn.ok
  have hctk : cs.take 5 = cs := take_len hc5
  refine runP_callF (fn := Tryd.f64) (c := Tryd.f64.body.getD .skip) rfl ?_
  simp only [Tryd.f64, Option.getD_some]
  have hfin : ∀ (o2 : Ob) (nx2 : Nat) (P' : Int), nx ≤ nx2 → KeepR r nx o o2 → Rdr o2 nx2 r s P' d 3 → (timesN s at_).2.2 = P' → 0 ≤ P' → K (nodeV zeroN, ⟨upd o2 (nx, 4) (.row ⟨29, 1, (nx, 4), false, true, cNd zeroN⟩), nx2⟩) := fun o2 nx2 P' g1 g2 g3 g4 g5 => by
    refine (hK _ nx2 g1 (keepR_new g2 (Nat.le_refl _)).x _ rfl).1 (by omega) ?_
    rw [g4]
    exact g3.to (Nat.le_refl _) (by rw [upd_off (by simp)]; exact g3.row)
  have e0 : at_ + 1 - 1 = at_ := by omega
  simp (disch := omega) only [go_sem, ↓IntWalk.iteOmega, IntWalk.toNatUp, Nat.reduceEqDiff, Nat.reduceAdd, Nat.reduceMul, Nat.reduceSub, Nat.reduceLT, Nat.reduceLeDiff, Int.reduceToNat, Int.reduceLT, Int.reduceLE, Int.reduceEq, Int.reduceAdd, Int.reduceSub, Int.reduceMul, Int.toNat_natCast, reduceCtorEq, decide_true, decide_false, IntWalk.i64_in, IntWalk.u64_in, IntWalk.u8_in, hcok, hrow, e0]
  refine WP_loop (fun m a o1 nx1 => ∃ (i : Nat) (d0 d1 : Int), i ≤ 2 ∧ m = 2 - i ∧ nx + 4 ≤ nx1 ∧ a 0 = rdP r ∧ a 3 = .ptr (nx, 3) (nx, 3) 0 ∧ a 4 = .ptr (nx, 4) (nx, 4) 0 ∧ a 5 = .int .i64 at_ ∧ a 6 = .ptr (nx + 1 + 1, 6) (nx + 1 + 1, 6) 0 ∧ a 7 = .int .i64 i ∧ Rdr o1 nx1 r s (at_ + 1 + 2 * (i : Int)) d 0 ∧ KeepR r nx o o1 ∧
    o1 (nx, 3) = some (.row ⟨29, 1, (nx, 3), false, true, cs⟩) ∧ o1 (nx, 4) = some (.row ⟨29, 1, (nx, 4), false, true, nd0⟩) ∧ o1 (nx + 1 + 1, 6) = some (.row ⟨101, 1, (nx + 1 + 1, 6), false, true, [.int .i64 d0, .int .i64 d1]⟩) ∧ at_ + 1 + 2 * (i : Int) ≤ s.length ∧
    (1 ≤ i → digitN s (at_ + 1) = d0 ∧ 0 ≤ d0 ∧ d0 ≤ 9 ∧ signAt s (at_ + 2) 44 = -1) ∧ (2 ≤ i → digitN s (at_ + 3) = d1 ∧ 0 ≤ d1 ∧ d1 ≤ 9 ∧ signAt s (at_ + 4) 125 = -1)) 2 (by omega) ?_ ?_
  · exact ⟨0, 0, 0, by omega, by omega, by omega, by simp (disch := omega) only [go_sem, ↓IntWalk.iteOmega, IntWalk.toNatUp, Nat.reduceEqDiff, Nat.reduceAdd, Nat.reduceMul, Nat.reduceSub, Nat.reduceLT, Nat.reduceLeDiff, Int.reduceToNat, Int.reduceLT, Int.reduceLE, Int.reduceEq, Int.reduceAdd, Int.reduceSub, Int.reduceMul, Int.toNat_natCast, reduceCtorEq, decide_true, decide_false, IntWalk.i64_in, IntWalk.u64_in, IntWalk.u8_in], by simp (disch := omega) only [go_sem, ↓IntWalk.iteOmega, IntWalk.toNatUp, Nat.reduceEqDiff, Nat.reduceAdd, Nat.reduceMul, Nat.reduceSub, Nat.reduceLT, Nat.reduceLeDiff, Int.reduceToNat, Int.reduceLT, Int.reduceLE, Int.reduceEq, Int.reduceAdd, Int.reduceSub, Int.reduceMul, Int.toNat_natCast, reduceCtorEq, decide_true, decide_false, IntWalk.i64_in, IntWalk.u64_in, IntWalk.u8_in], by simp (disch := omega) only [go_sem, ↓IntWalk.iteOmega, IntWalk.toNatUp, Nat.reduceEqDiff, Nat.reduceAdd, Nat.reduceMul, Nat.reduceSub, Nat.reduceLT, Nat.reduceLeDiff, Int.reduceToNat, Int.reduceLT, Int.reduceLE, Int.reduceEq, Int.reduceAdd, Int.reduceSub, Int.reduceMul, Int.toNat_natCast, reduceCtorEq, decide_true, decide_false, IntWalk.i64_in, IntWalk.u64_in, IntWalk.u8_in], by simp (disch := omega) only [go_sem, ↓IntWalk.iteOmega, IntWalk.toNatUp, Nat.reduceEqDiff, Nat.reduceAdd, Nat.reduceMul, Nat.reduceSub, Nat.reduceLT, Nat.reduceLeDiff, Int.reduceToNat, Int.reduceLT, Int.reduceLE, Int.reduceEq, Int.reduceAdd, Int.reduceSub, Int.reduceMul, Int.toNat_natCast, reduceCtorEq, decide_true, decide_false, IntWalk.i64_in, IntWalk.u64_in, IntWalk.u8_in], by simp (disch := omega) only [go_sem, ↓IntWalk.iteOmega, IntWalk.toNatUp, Nat.reduceEqDiff, Nat.reduceAdd, Nat.reduceMul, Nat.reduceSub, Nat.reduceLT, Nat.reduceLeDiff, Int.reduceToNat, Int.reduceLT, Int.reduceLE, Int.reduceEq, Int.reduceAdd, Int.reduceSub, Int.reduceMul, Int.toNat_natCast, reduceCtorEq, decide_true, decide_false, IntWalk.i64_in, IntWalk.u64_in, IntWalk.u8_in], by simp (disch := omega) only [go_sem, ↓IntWalk.iteOmega, IntWalk.toNatUp, Nat.reduceEqDiff, Nat.reduceAdd, Nat.reduceMul, Nat.reduceSub, Nat.reduceLT, Nat.reduceLeDiff, Int.reduceToNat, Int.reduceLT, Int.reduceLE, Int.reduceEq, Int.reduceAdd, Int.reduceSub, Int.reduceMul, Int.toNat_natCast, reduceCtorEq, decide_true, decide_false, IntWalk.i64_in, IntWalk.u64_in, IntWalk.u8_in], h.to (by omega) (by simp [upd_app, hrow]), keepR_new (keepR_new (keepR_new (KeepR.refl _ _ _) (Nat.le_refl _)) (Nat.le_refl _)) (by omega), by simp (disch := omega) only [go_sem, ↓IntWalk.iteOmega, IntWalk.toNatUp, Nat.reduceEqDiff, Nat.reduceAdd, Nat.reduceMul, Nat.reduceSub, Nat.reduceLT, Nat.reduceLeDiff, Int.reduceToNat, Int.reduceLT, Int.reduceLE, Int.reduceEq, Int.reduceAdd, Int.reduceSub, Int.reduceMul, Int.toNat_natCast, reduceCtorEq, decide_true, decide_false, IntWalk.i64_in, IntWalk.u64_in, IntWalk.u8_in], by simp (disch := omega) only [go_sem, ↓IntWalk.iteOmega, IntWalk.toNatUp, Nat.reduceEqDiff, Nat.reduceAdd, Nat.reduceMul, Nat.reduceSub, Nat.reduceLT, Nat.reduceLeDiff, Int.reduceToNat, Int.reduceLT, Int.reduceLE, Int.reduceEq, Int.reduceAdd, Int.reduceSub, Int.reduceMul, Int.toNat_natCast, reduceCtorEq, decide_true, decide_false, IntWalk.i64_in, IntWalk.u64_in, IntWalk.u8_in], by simp (disch := omega) only [go_sem, ↓IntWalk.iteOmega, IntWalk.toNatUp, Nat.reduceEqDiff, Nat.reduceAdd, Nat.reduceMul, Nat.reduceSub, Nat.reduceLT, Nat.reduceLeDiff, Int.reduceToNat, Int.reduceLT, Int.reduceLE, Int.reduceEq, Int.reduceAdd, Int.reduceSub, Int.reduceMul, Int.toNat_natCast, reduceCtorEq, decide_true, decide_false, IntWalk.i64_in, IntWalk.u64_in, IntWalk.u8_in], by simpa using h1, fun h => absurd h (by omega), fun h => absurd h (by omega)⟩
  · rintro m a o1 nx1 ⟨i, d0, d1, hi, rfl, hnx, a0, a3, a4, a5, a6, a7, hS, hkp, o3, o4, o6, hle, hf1, hf2⟩
    have hrlt := hS.lt
    have hicase : i = 0 ∨ i = 1 ∨ i = 2 := by omega
    rcases hicase with hi0 | hi1 | hi2
    · -- round 0
      obtain rfl : i = 0 := hi0
      have eP : at_ + 1 + 2 * ((0 : Nat) : Int) = at_ + 1 := by omega
      rw [eP] at hS hle
      have h2 := hS.row
      have hnext := XRd_next s (at_ + 1) d 0 (by omega)
      by_cases hend : (s.length : Int) ≤ at_ + 1
      · have hT : (timesN s at_).2.2 = at_ + 1 := by
          have : digitN s (at_ + 1) = -2 := by rw [digitN, if_pos hend]
          unfold timesN
          rw [this, if_pos rfl]
          show (s.length : Int) = _; omega
        rw [next_end (.inl hend)] at hnext
        simp (disch := omega) only [go_sem, ↓IntWalk.iteOmega, IntWalk.toNatUp, Nat.reduceEqDiff, Nat.reduceAdd, Nat.reduceMul, Nat.reduceSub, Nat.reduceLT, Nat.reduceLeDiff, Int.reduceToNat, Int.reduceLT, Int.reduceLE, Int.reduceEq, Int.reduceAdd, Int.reduceSub, Int.reduceMul, Int.toNat_natCast, reduceCtorEq, decide_true, decide_false, IntWalk.i64_in, IntWalk.u64_in, IntWalk.u8_in, a0, a3, a4, a5, a6, a7, h2, hnext, crF_fail, o3, o4, o6]
        refine fail_call ⟨by omega, h2⟩ (fun o2 nx2 k1 k2 k3 => ?_)
        have o42 : o2 (nx, 4) = some (.row ⟨29, 1, (nx, 4), false, true, nd0⟩) := by rw [k2 nx 4 (by omega) (by simp)]; simp [upd_app, o4]
        simp (disch := omega) only [go_sem, ↓IntWalk.iteOmega, IntWalk.toNatUp, Nat.reduceEqDiff, Nat.reduceAdd, Nat.reduceMul, Nat.reduceSub, Nat.reduceLT, Nat.reduceLeDiff, Int.reduceToNat, Int.reduceLT, Int.reduceLE, Int.reduceEq, Int.reduceAdd, Int.reduceSub, Int.reduceMul, Int.toNat_natCast, reduceCtorEq, decide_true, decide_false, IntWalk.i64_in, IntWalk.u64_in, IntWalk.u8_in, a0, a4, o42]
        intro o'' ho
        obtain rfl := funext fun t => ho t (by simp)
        have := hfin o2 nx2 _ (by omega) (hkp.trans (k2.up (nx := nx1) (by omega)) (by omega)) k3 hT (by omega)
        simpa only [nodeV, cNd_mk, slN, cNds_nil, List.length_nil] using this
      · obtain ⟨c, hc, hbt⟩ := byte_at (a := at_ + 1) (by omega) hend
        have hdg := digit_of hend hbt
        rw [next_at hend, hbt] at hnext
        by_cases hd : (c.toNat : Int) < 48 ∨ 57 < (c.toNat : Int)
        · have hT : (timesN s at_).2.2 = at_ := by
            rw [if_neg (by omega)] at hdg
            unfold timesN
            rw [hdg, if_neg (by decide), if_pos (by decide)]
          rcases Classical.em ((c.toNat : Int) < 48) with hd1 | hd1
          · simp (disch := omega) only [go_sem, ↓IntWalk.iteOmega, IntWalk.toNatUp, Nat.reduceEqDiff, Nat.reduceAdd, Nat.reduceMul, Nat.reduceSub, Nat.reduceLT, Nat.reduceLeDiff, Int.reduceToNat, Int.reduceLT, Int.reduceLE, Int.reduceEq, Int.reduceAdd, Int.reduceSub, Int.reduceMul, Int.toNat_natCast, reduceCtorEq, decide_true, decide_false, IntWalk.i64_in, IntWalk.u64_in, IntWalk.u8_in, a0, a3, a4, a5, a6, a7, h2, hnext, hd1, crF_fail, o3, o4, o6]
            refine fail_call ⟨by omega, upd_same _ _ _⟩ (fun o2 nx2 k1 k2 k3 => ?_)
            have o42 : o2 (nx, 4) = some (.row ⟨29, 1, (nx, 4), false, true, nd0⟩) := by rw [k2 nx 4 (by omega) (by simp)]; simp [upd_app, o4]
            simp (disch := omega) only [go_sem, ↓IntWalk.iteOmega, IntWalk.toNatUp, Nat.reduceEqDiff, Nat.reduceAdd, Nat.reduceMul, Nat.reduceSub, Nat.reduceLT, Nat.reduceLeDiff, Int.reduceToNat, Int.reduceLT, Int.reduceLE, Int.reduceEq, Int.reduceAdd, Int.reduceSub, Int.reduceMul, Int.toNat_natCast, reduceCtorEq, decide_true, decide_false, IntWalk.i64_in, IntWalk.u64_in, IntWalk.u8_in, a0, a4, o42]
            intro o'' ho
            obtain rfl := funext fun t => ho t (by simp)
            have := hfin o2 nx2 _ (by omega) ((keepR_own hkp).trans (k2.up (nx := nx1) (by omega)) (by omega)) k3 hT (by omega)
            simpa only [nodeV, cNd_mk, slN, cNds_nil, List.length_nil] using this
          · have hd2 : 57 < (c.toNat : Int) := by omega
            simp (disch := omega) only [go_sem, ↓IntWalk.iteOmega, IntWalk.toNatUp, Nat.reduceEqDiff, Nat.reduceAdd, Nat.reduceMul, Nat.reduceSub, Nat.reduceLT, Nat.reduceLeDiff, Int.reduceToNat, Int.reduceLT, Int.reduceLE, Int.reduceEq, Int.reduceAdd, Int.reduceSub, Int.reduceMul, Int.toNat_natCast, reduceCtorEq, decide_true, decide_false, IntWalk.i64_in, IntWalk.u64_in, IntWalk.u8_in, a0, a3, a4, a5, a6, a7, h2, hnext, hd1, hd2, crF_fail, o3, o4, o6]
            refine fail_call ⟨by omega, upd_same _ _ _⟩ (fun o2 nx2 k1 k2 k3 => ?_)
            have o42 : o2 (nx, 4) = some (.row ⟨29, 1, (nx, 4), false, true, nd0⟩) := by rw [k2 nx 4 (by omega) (by simp)]; simp [upd_app, o4]
            simp (disch := omega) only [go_sem, ↓IntWalk.iteOmega, IntWalk.toNatUp, Nat.reduceEqDiff, Nat.reduceAdd, Nat.reduceMul, Nat.reduceSub, Nat.reduceLT, Nat.reduceLeDiff, Int.reduceToNat, Int.reduceLT, Int.reduceLE, Int.reduceEq, Int.reduceAdd, Int.reduceSub, Int.reduceMul, Int.toNat_natCast, reduceCtorEq, decide_true, decide_false, IntWalk.i64_in, IntWalk.u64_in, IntWalk.u8_in, a0, a4, o42]
            intro o'' ho
            obtain rfl := funext fun t => ho t (by simp)
            have := hfin o2 nx2 _ (by omega) ((keepR_own hkp).trans (k2.up (nx := nx1) (by omega)) (by omega)) k3 hT (by omega)
            simpa only [nodeV, cNd_mk, slN, cNds_nil, List.length_nil] using this
        · rw [if_pos (by omega)] at hdg
          have hd1 : ¬ (c.toNat : Int) < 48 := by omega
          have hd2 : ¬ 57 < (c.toNat : Int) := by omega
          have e2 : at_ + 1 + 1 = at_ + 2 := by omega
          have e3 : at_ + 2 + 1 = at_ + 3 := by omega
          have hnext2 := XRd_next s (at_ + 2) d 0 (by omega)
          by_cases hend2 : (s.length : Int) ≤ at_ + 2
          · have hT : (timesN s at_).2.2 = at_ + 2 := by
              have : signAt s (at_ + 2) 44 = s.length := by rw [signAt, if_pos hend2]
              unfold timesN
              rw [hdg, if_neg (by omega), if_neg (by omega), this, if_pos (by omega)]
              show (s.length : Int) = _; omega
            rw [next_end (.inl hend2)] at hnext2
            simp (disch := omega) only [go_sem, ↓IntWalk.iteOmega, IntWalk.toNatUp, Nat.reduceEqDiff, Nat.reduceAdd, Nat.reduceMul, Nat.reduceSub, Nat.reduceLT, Nat.reduceLeDiff, Int.reduceToNat, Int.reduceLT, Int.reduceLE, Int.reduceEq, Int.reduceAdd, Int.reduceSub, Int.reduceMul, Int.toNat_natCast, reduceCtorEq, decide_true, decide_false, IntWalk.i64_in, IntWalk.u64_in, IntWalk.u8_in, a0, a3, a4, a5, a6, a7, h2, hnext, hnext2, hd1, hd2, crF_fail, o3, o4, o6, e2]
            refine fail_call ⟨by omega, upd_same _ _ _⟩ (fun o2 nx2 k1 k2 k3 => ?_)
            have o42 : o2 (nx, 4) = some (.row ⟨29, 1, (nx, 4), false, true, nd0⟩) := by rw [k2 nx 4 (by omega) (by simp)]; simp [upd_app, o4]
            simp (disch := omega) only [go_sem, ↓IntWalk.iteOmega, IntWalk.toNatUp, Nat.reduceEqDiff, Nat.reduceAdd, Nat.reduceMul, Nat.reduceSub, Nat.reduceLT, Nat.reduceLeDiff, Int.reduceToNat, Int.reduceLT, Int.reduceLE, Int.reduceEq, Int.reduceAdd, Int.reduceSub, Int.reduceMul, Int.toNat_natCast, reduceCtorEq, decide_true, decide_false, IntWalk.i64_in, IntWalk.u64_in, IntWalk.u8_in, a0, a4, o42]
            intro o'' ho
            obtain rfl := funext fun t => ho t (by simp)
            have := hfin o2 nx2 _ (by omega) ((keepR_own (keepR_new hkp (by omega))).trans (k2.up (nx := nx1) (by omega)) (by omega)) k3 hT (by omega)
            simpa only [nodeV, cNd_mk, slN, cNds_nil, List.length_nil] using this
          · obtain ⟨c2, hc2, hbt2⟩ := byte_at (a := at_ + 2) (by omega) hend2
            rw [next_at hend2, hbt2] at hnext2
            by_cases hd3 : (c2.toNat : Int) = 44
            · have hsg : signAt s (at_ + 2) 44 = -1 := by rw [signAt, if_neg hend2, if_pos (by rw [hbt2, hd3]; rfl)]
              simp (disch := omega) only [go_sem, ↓IntWalk.iteOmega, IntWalk.toNatUp, Nat.reduceEqDiff, Nat.reduceAdd, Nat.reduceMul, Nat.reduceSub, Nat.reduceLT, Nat.reduceLeDiff, Int.reduceToNat, Int.reduceLT, Int.reduceLE, Int.reduceEq, Int.reduceAdd, Int.reduceSub, Int.reduceMul, Int.toNat_natCast, reduceCtorEq, decide_true, decide_false, IntWalk.i64_in, IntWalk.u64_in, IntWalk.u8_in, a0, a3, a4, a5, a6, a7, h2, hnext, hnext2, hd1, hd2, hd3, crF_fail, o3, o4, o6, e2, e3]
              refine ⟨_, ?_, 1, _, _, by omega, rfl, by omega, rfl, ?_, keepR_own (keepR_own (keepR_new hkp (by omega))), rfl, ?_, fun _ => ⟨hdg, by omega, by omega, hsg⟩, fun h => absurd h (by omega)⟩
              · omega
              · rw [show at_ + 1 + 2 * ((1 : Nat) : Int) = at_ + 3 by omega]
                exact ⟨by omega, upd_same _ _ _⟩
              · omega
            · have hT : (timesN s at_).2.2 = at_ + 2 := by
                have : signAt s (at_ + 2) 44 = at_ + 2 := by rw [signAt, if_neg hend2, if_neg (by rw [hbt2]; exact hd3)]
                unfold timesN
                rw [hdg, if_neg (by omega), if_neg (by omega), this, if_pos (by omega)]
              simp (disch := omega) only [go_sem, ↓IntWalk.iteOmega, IntWalk.toNatUp, Nat.reduceEqDiff, Nat.reduceAdd, Nat.reduceMul, Nat.reduceSub, Nat.reduceLT, Nat.reduceLeDiff, Int.reduceToNat, Int.reduceLT, Int.reduceLE, Int.reduceEq, Int.reduceAdd, Int.reduceSub, Int.reduceMul, Int.toNat_natCast, reduceCtorEq, decide_true, decide_false, IntWalk.i64_in, IntWalk.u64_in, IntWalk.u8_in, a0, a3, a4, a5, a6, a7, h2, hnext, hnext2, hd1, hd2, hd3, crF_fail, o3, o4, o6, e2]
              refine fail_call ⟨by omega, upd_same _ _ _⟩ (fun o2 nx2 k1 k2 k3 => ?_)
              have o42 : o2 (nx, 4) = some (.row ⟨29, 1, (nx, 4), false, true, nd0⟩) := by rw [k2 nx 4 (by omega) (by simp)]; simp [upd_app, o4]
              simp (disch := omega) only [go_sem, ↓IntWalk.iteOmega, IntWalk.toNatUp, Nat.reduceEqDiff, Nat.reduceAdd, Nat.reduceMul, Nat.reduceSub, Nat.reduceLT, Nat.reduceLeDiff, Int.reduceToNat, Int.reduceLT, Int.reduceLE, Int.reduceEq, Int.reduceAdd, Int.reduceSub, Int.reduceMul, Int.toNat_natCast, reduceCtorEq, decide_true, decide_false, IntWalk.i64_in, IntWalk.u64_in, IntWalk.u8_in, a0, a4, o42]
              intro o'' ho
              obtain rfl := funext fun t => ho t (by simp)
              have := hfin o2 nx2 _ (by omega) ((keepR_own (keepR_new hkp (by omega))).trans (k2.up (nx := nx1) (by omega)) (by omega)) k3 hT (by omega)
              simpa only [nodeV, cNd_mk, slN, cNds_nil, List.length_nil] using this
    · -- round 1
      obtain rfl : i = 1 := hi1
      have eP : at_ + 1 + 2 * ((1 : Nat) : Int) = at_ + 3 := by omega
      rw [eP] at hS hle
      have h2 := hS.row
      have hnext := XRd_next s (at_ + 3) d 0 (by omega)
      obtain ⟨g1, g2, g3, g4⟩ := hf1 (by omega)
      by_cases hend : (s.length : Int) ≤ at_ + 3
      · have hT : (timesN s at_).2.2 = at_ + 3 := by
          have : digitN s (at_ + 3) = -2 := by rw [digitN, if_pos hend]
          unfold timesN
          rw [g1, if_neg (by omega), if_neg (by omega), g4, if_neg (by decide)]; rw [this, if_pos rfl]
          show (s.length : Int) = _; omega
        rw [next_end (.inl hend)] at hnext
        simp (disch := omega) only [go_sem, ↓IntWalk.iteOmega, IntWalk.toNatUp, Nat.reduceEqDiff, Nat.reduceAdd, Nat.reduceMul, Nat.reduceSub, Nat.reduceLT, Nat.reduceLeDiff, Int.reduceToNat, Int.reduceLT, Int.reduceLE, Int.reduceEq, Int.reduceAdd, Int.reduceSub, Int.reduceMul, Int.toNat_natCast, reduceCtorEq, decide_true, decide_false, IntWalk.i64_in, IntWalk.u64_in, IntWalk.u8_in, a0, a3, a4, a5, a6, a7, h2, hnext, crF_fail, o3, o4, o6]
        refine fail_call ⟨by omega, h2⟩ (fun o2 nx2 k1 k2 k3 => ?_)
        have o42 : o2 (nx, 4) = some (.row ⟨29, 1, (nx, 4), false, true, nd0⟩) := by rw [k2 nx 4 (by omega) (by simp)]; simp [upd_app, o4]
        simp (disch := omega) only [go_sem, ↓IntWalk.iteOmega, IntWalk.toNatUp, Nat.reduceEqDiff, Nat.reduceAdd, Nat.reduceMul, Nat.reduceSub, Nat.reduceLT, Nat.reduceLeDiff, Int.reduceToNat, Int.reduceLT, Int.reduceLE, Int.reduceEq, Int.reduceAdd, Int.reduceSub, Int.reduceMul, Int.toNat_natCast, reduceCtorEq, decide_true, decide_false, IntWalk.i64_in, IntWalk.u64_in, IntWalk.u8_in, a0, a4, o42]
        intro o'' ho
        obtain rfl := funext fun t => ho t (by simp)
        have := hfin o2 nx2 _ (by omega) (hkp.trans (k2.up (nx := nx1) (by omega)) (by omega)) k3 hT (by omega)
        simpa only [nodeV, cNd_mk, slN, cNds_nil, List.length_nil] using this
      · obtain ⟨c, hc, hbt⟩ := byte_at (a := at_ + 3) (by omega) hend
        have hdg := digit_of hend hbt
        rw [next_at hend, hbt] at hnext
        by_cases hd : (c.toNat : Int) < 48 ∨ 57 < (c.toNat : Int)
        · have hT : (timesN s at_).2.2 = at_ := by
            rw [if_neg (by omega)] at hdg
            unfold timesN
            rw [g1, if_neg (by omega), if_neg (by omega), g4, if_neg (by decide)]; rw [hdg, if_neg (by decide), if_pos (by decide)]
          rcases Classical.em ((c.toNat : Int) < 48) with hd1 | hd1
          · simp (disch := omega) only [go_sem, ↓IntWalk.iteOmega, IntWalk.toNatUp, Nat.reduceEqDiff, Nat.reduceAdd, Nat.reduceMul, Nat.reduceSub, Nat.reduceLT, Nat.reduceLeDiff, Int.reduceToNat, Int.reduceLT, Int.reduceLE, Int.reduceEq, Int.reduceAdd, Int.reduceSub, Int.reduceMul, Int.toNat_natCast, reduceCtorEq, decide_true, decide_false, IntWalk.i64_in, IntWalk.u64_in, IntWalk.u8_in, a0, a3, a4, a5, a6, a7, h2, hnext, hd1, crF_fail, o3, o4, o6]
            refine fail_call ⟨by omega, upd_same _ _ _⟩ (fun o2 nx2 k1 k2 k3 => ?_)
            have o42 : o2 (nx, 4) = some (.row ⟨29, 1, (nx, 4), false, true, nd0⟩) := by rw [k2 nx 4 (by omega) (by simp)]; simp [upd_app, o4]
            simp (disch := omega) only [go_sem, ↓IntWalk.iteOmega, IntWalk.toNatUp, Nat.reduceEqDiff, Nat.reduceAdd, Nat.reduceMul, Nat.reduceSub, Nat.reduceLT, Nat.reduceLeDiff, Int.reduceToNat, Int.reduceLT, Int.reduceLE, Int.reduceEq, Int.reduceAdd, Int.reduceSub, Int.reduceMul, Int.toNat_natCast, reduceCtorEq, decide_true, decide_false, IntWalk.i64_in, IntWalk.u64_in, IntWalk.u8_in, a0, a4, o42]
            intro o'' ho
            obtain rfl := funext fun t => ho t (by simp)
            have := hfin o2 nx2 _ (by omega) ((keepR_own hkp).trans (k2.up (nx := nx1) (by omega)) (by omega)) k3 hT (by omega)
            simpa only [nodeV, cNd_mk, slN, cNds_nil, List.length_nil] using this
          · have hd2 : 57 < (c.toNat : Int) := by omega
            simp (disch := omega) only [go_sem, ↓IntWalk.iteOmega, IntWalk.toNatUp, Nat.reduceEqDiff, Nat.reduceAdd, Nat.reduceMul, Nat.reduceSub, Nat.reduceLT, Nat.reduceLeDiff, Int.reduceToNat, Int.reduceLT, Int.reduceLE, Int.reduceEq, Int.reduceAdd, Int.reduceSub, Int.reduceMul, Int.toNat_natCast, reduceCtorEq, decide_true, decide_false, IntWalk.i64_in, IntWalk.u64_in, IntWalk.u8_in, a0, a3, a4, a5, a6, a7, h2, hnext, hd1, hd2, crF_fail, o3, o4, o6]
            refine fail_call ⟨by omega, upd_same _ _ _⟩ (fun o2 nx2 k1 k2 k3 => ?_)
            have o42 : o2 (nx, 4) = some (.row ⟨29, 1, (nx, 4), false, true, nd0⟩) := by rw [k2 nx 4 (by omega) (by simp)]; simp [upd_app, o4]
            simp (disch := omega) only [go_sem, ↓IntWalk.iteOmega, IntWalk.toNatUp, Nat.reduceEqDiff, Nat.reduceAdd, Nat.reduceMul, Nat.reduceSub, Nat.reduceLT, Nat.reduceLeDiff, Int.reduceToNat, Int.reduceLT, Int.reduceLE, Int.reduceEq, Int.reduceAdd, Int.reduceSub, Int.reduceMul, Int.toNat_natCast, reduceCtorEq, decide_true, decide_false, IntWalk.i64_in, IntWalk.u64_in, IntWalk.u8_in, a0, a4, o42]
            intro o'' ho
            obtain rfl := funext fun t => ho t (by simp)
            have := hfin o2 nx2 _ (by omega) ((keepR_own hkp).trans (k2.up (nx := nx1) (by omega)) (by omega)) k3 hT (by omega)
            simpa only [nodeV, cNd_mk, slN, cNds_nil, List.length_nil] using this
        · rw [if_pos (by omega)] at hdg
          have hd1 : ¬ (c.toNat : Int) < 48 := by omega
          have hd2 : ¬ 57 < (c.toNat : Int) := by omega
          have e2 : at_ + 3 + 1 = at_ + 4 := by omega
          have e3 : at_ + 4 + 1 = at_ + 5 := by omega
          have hnext2 := XRd_next s (at_ + 4) d 0 (by omega)
          by_cases hend2 : (s.length : Int) ≤ at_ + 4
          · have hT : (timesN s at_).2.2 = at_ + 4 := by
              have : signAt s (at_ + 4) 125 = s.length := by rw [signAt, if_pos hend2]
              unfold timesN
              rw [g1, if_neg (by omega), if_neg (by omega), g4, if_neg (by decide)]; rw [hdg, if_neg (by omega), if_neg (by omega), this, if_pos (by omega)]
              show (s.length : Int) = _; omega
            rw [next_end (.inl hend2)] at hnext2
            simp (disch := omega) only [go_sem, ↓IntWalk.iteOmega, IntWalk.toNatUp, Nat.reduceEqDiff, Nat.reduceAdd, Nat.reduceMul, Nat.reduceSub, Nat.reduceLT, Nat.reduceLeDiff, Int.reduceToNat, Int.reduceLT, Int.reduceLE, Int.reduceEq, Int.reduceAdd, Int.reduceSub, Int.reduceMul, Int.toNat_natCast, reduceCtorEq, decide_true, decide_false, IntWalk.i64_in, IntWalk.u64_in, IntWalk.u8_in, a0, a3, a4, a5, a6, a7, h2, hnext, hnext2, hd1, hd2, crF_fail, o3, o4, o6, e2]
            refine fail_call ⟨by omega, upd_same _ _ _⟩ (fun o2 nx2 k1 k2 k3 => ?_)
            have o42 : o2 (nx, 4) = some (.row ⟨29, 1, (nx, 4), false, true, nd0⟩) := by rw [k2 nx 4 (by omega) (by simp)]; simp [upd_app, o4]
            simp (disch := omega) only [go_sem, ↓IntWalk.iteOmega, IntWalk.toNatUp, Nat.reduceEqDiff, Nat.reduceAdd, Nat.reduceMul, Nat.reduceSub, Nat.reduceLT, Nat.reduceLeDiff, Int.reduceToNat, Int.reduceLT, Int.reduceLE, Int.reduceEq, Int.reduceAdd, Int.reduceSub, Int.reduceMul, Int.toNat_natCast, reduceCtorEq, decide_true, decide_false, IntWalk.i64_in, IntWalk.u64_in, IntWalk.u8_in, a0, a4, o42]
            intro o'' ho
            obtain rfl := funext fun t => ho t (by simp)
            have := hfin o2 nx2 _ (by omega) ((keepR_own (keepR_new hkp (by omega))).trans (k2.up (nx := nx1) (by omega)) (by omega)) k3 hT (by omega)
            simpa only [nodeV, cNd_mk, slN, cNds_nil, List.length_nil] using this
          · obtain ⟨c2, hc2, hbt2⟩ := byte_at (a := at_ + 4) (by omega) hend2
            rw [next_at hend2, hbt2] at hnext2
            by_cases hd3 : (c2.toNat : Int) = 125
            · have hsg : signAt s (at_ + 4) 125 = -1 := by rw [signAt, if_neg hend2, if_pos (by rw [hbt2, hd3]; rfl)]
              simp (disch := omega) only [go_sem, ↓IntWalk.iteOmega, IntWalk.toNatUp, Nat.reduceEqDiff, Nat.reduceAdd, Nat.reduceMul, Nat.reduceSub, Nat.reduceLT, Nat.reduceLeDiff, Int.reduceToNat, Int.reduceLT, Int.reduceLE, Int.reduceEq, Int.reduceAdd, Int.reduceSub, Int.reduceMul, Int.toNat_natCast, reduceCtorEq, decide_true, decide_false, IntWalk.i64_in, IntWalk.u64_in, IntWalk.u8_in, a0, a3, a4, a5, a6, a7, h2, hnext, hnext2, hd1, hd2, hd3, crF_fail, o3, o4, o6, e2, e3]
              refine ⟨_, ?_, 2, _, _, by omega, rfl, by omega, rfl, ?_, keepR_own (keepR_own (keepR_new hkp (by omega))), rfl, ?_, fun _ => ⟨g1, g2, g3, g4⟩, fun _ => ⟨hdg, by omega, by omega, hsg⟩⟩
              · omega
              · rw [show at_ + 1 + 2 * ((2 : Nat) : Int) = at_ + 5 by omega]
                exact ⟨by omega, upd_same _ _ _⟩
              · omega
            · have hT : (timesN s at_).2.2 = at_ + 4 := by
                have : signAt s (at_ + 4) 125 = at_ + 4 := by rw [signAt, if_neg hend2, if_neg (by rw [hbt2]; exact hd3)]
                unfold timesN
                rw [g1, if_neg (by omega), if_neg (by omega), g4, if_neg (by decide)]; rw [hdg, if_neg (by omega), if_neg (by omega), this, if_pos (by omega)]
              simp (disch := omega) only [go_sem, ↓IntWalk.iteOmega, IntWalk.toNatUp, Nat.reduceEqDiff, Nat.reduceAdd, Nat.reduceMul, Nat.reduceSub, Nat.reduceLT, Nat.reduceLeDiff, Int.reduceToNat, Int.reduceLT, Int.reduceLE, Int.reduceEq, Int.reduceAdd, Int.reduceSub, Int.reduceMul, Int.toNat_natCast, reduceCtorEq, decide_true, decide_false, IntWalk.i64_in, IntWalk.u64_in, IntWalk.u8_in, a0, a3, a4, a5, a6, a7, h2, hnext, hnext2, hd1, hd2, hd3, crF_fail, o3, o4, o6, e2]
              refine fail_call ⟨by omega, upd_same _ _ _⟩ (fun o2 nx2 k1 k2 k3 => ?_)
              have o42 : o2 (nx, 4) = some (.row ⟨29, 1, (nx, 4), false, true, nd0⟩) := by rw [k2 nx 4 (by omega) (by simp)]; simp [upd_app, o4]
              simp (disch := omega) only [go_sem, ↓IntWalk.iteOmega, IntWalk.toNatUp, Nat.reduceEqDiff, Nat.reduceAdd, Nat.reduceMul, Nat.reduceSub, Nat.reduceLT, Nat.reduceLeDiff, Int.reduceToNat, Int.reduceLT, Int.reduceLE, Int.reduceEq, Int.reduceAdd, Int.reduceSub, Int.reduceMul, Int.toNat_natCast, reduceCtorEq, decide_true, decide_false, IntWalk.i64_in, IntWalk.u64_in, IntWalk.u8_in, a0, a4, o42]
              intro o'' ho
              obtain rfl := funext fun t => ho t (by simp)
              have := hfin o2 nx2 _ (by omega) ((keepR_own (keepR_new hkp (by omega))).trans (k2.up (nx := nx1) (by omega)) (by omega)) k3 hT (by omega)
              simpa only [nodeV, cNd_mk, slN, cNds_nil, List.length_nil] using this
    · -- the end
      obtain rfl : i = 2 := hi2
      have eP : at_ + 1 + 2 * ((2 : Nat) : Int) = at_ + 5 := by omega
      rw [eP] at hS hle
      have h2 := hS.row
      obtain ⟨g1, g2, g3, g4⟩ := hf1 (by omega)
      obtain ⟨g5, g6, g7, g8⟩ := hf2 (by omega)
      have hTT : timesN s at_ = if d1 < d0 then (0, 0, at_) else (d0, d1, -1) := by
        unfold timesN
        rw [g1, if_neg (by omega), if_neg (by omega), g4, if_neg (by decide), g5, if_neg (by omega), if_neg (by omega), g8, if_neg (by decide)]
      by_cases hd : d1 < d0
      · have hT : (timesN s at_).2.2 = at_ := by rw [hTT, if_pos hd]
        simp (disch := omega) only [go_sem, ↓IntWalk.iteOmega, IntWalk.toNatUp, Nat.reduceEqDiff, Nat.reduceAdd, Nat.reduceMul, Nat.reduceSub, Nat.reduceLT, Nat.reduceLeDiff, Int.reduceToNat, Int.reduceLT, Int.reduceLE, Int.reduceEq, Int.reduceAdd, Int.reduceSub, Int.reduceMul, Int.toNat_natCast, reduceCtorEq, decide_true, decide_false, IntWalk.i64_in, IntWalk.u64_in, IntWalk.u8_in, a0, a3, a4, a5, a6, a7, h2, hd, crF_fail, o3, o4, o6]
        refine fail_call ⟨by omega, upd_same _ _ _⟩ (fun o2 nx2 k1 k2 k3 => ?_)
        have o42 : o2 (nx, 4) = some (.row ⟨29, 1, (nx, 4), false, true, nd0⟩) := by rw [k2 nx 4 (by omega) (by simp)]; simp [upd_app, o4]
        simp (disch := omega) only [go_sem, ↓IntWalk.iteOmega, IntWalk.toNatUp, Nat.reduceEqDiff, Nat.reduceAdd, Nat.reduceMul, Nat.reduceSub, Nat.reduceLT, Nat.reduceLeDiff, Int.reduceToNat, Int.reduceLT, Int.reduceLE, Int.reduceEq, Int.reduceAdd, Int.reduceSub, Int.reduceMul, Int.toNat_natCast, reduceCtorEq, decide_true, decide_false, IntWalk.i64_in, IntWalk.u64_in, IntWalk.u8_in, a0, a4, o42]
        intro o'' ho
        obtain rfl := funext fun t => ho t (by simp)
        have := hfin o2 nx2 _ (by omega) ((keepR_own hkp).trans (k2.up (nx := nx1) (by omega)) (by omega)) k3 hT (by omega)
        simpa only [nodeV, cNd_mk, slN, cNds_nil, List.length_nil] using this
      · rw [if_neg hd] at hTT
        have hn1 : ∀ (o' : Ob), (∀ i j, b ≤ i → i < nx → (j = 21 ∨ j = 26 ∨ j = 31) → o' (i, j) = o (i, j)) → WNd o' b nx D cs n := fun o' hk => hn.keep (Nat.le_refl _) hk
        simp (disch := omega) only [go_sem, ↓IntWalk.iteOmega, IntWalk.toNatUp, Nat.reduceEqDiff, Nat.reduceAdd, Nat.reduceMul, Nat.reduceSub, Nat.reduceLT, Nat.reduceLeDiff, Int.reduceToNat, Int.reduceLT, Int.reduceLE, Int.reduceEq, Int.reduceAdd, Int.reduceSub, Int.reduceMul, Int.toNat_natCast, reduceCtorEq, decide_true, decide_false, IntWalk.i64_in, IntWalk.u64_in, IntWalk.u8_in, a0, a3, a4, a5, a6, a7, h2, hd, crF_fail, o3, o4, o6, hc5, hctk, hcok]
        generalize hoF : upd (upd o1 (nx1 + 1 + 1, 92) _) (nx, 4) _ = oF
        have hF : ∀ i j, (i, j) ≠ (nx1 + 1 + 1, 92) → (i, j) ≠ (nx, 4) → oF (i, j) = o1 (i, j) := fun i j e1 e2 => by rw [← hoF, upd_off e2, upd_off e1]
        have hw := hn1 oF (fun i j k1 k2 k3 => by rw [hF i j (by intro e; cases e; omega) (by intro e; cases e; omega)]; exact hkp i j k2 (by intro e; cases e; omega))
        rw [hw.view 1010 (by omega)]
        intro o'' ho
        have hnm : ∀ i j, i < nx → ¬ (b ≤ i ∧ (j = 21 ∨ j = 26 ∨ j = 31)) → o'' (i, j) = oF (i, j) := fun i j k1 k2 => ho (i, j) (fun hm => by
          rcases List.mem_cons.1 hm with e | hm
          · cases e; omega
          · have := hw.tags 1010 (i, j) hm
            exact k2 ⟨this.1, this.2.2⟩)
        have hres := (hK o'' (nx1 + 1 + 1 + 1) (by omega) (fun i k k1 k2 k3 => by rw [hnm i k k1 k3, hF i k (by intro e; cases e; omega) (by intro e; cases e; omega)]; exact hkp i k k1 k2) _ rfl).2 (by rw [hTT]; show ¬ (0 : Int) ≤ -1; decide) ⟨by omega, by rw [hnm r 13 hlt0 (by omega), hF r 13 (by simp) (by simp)]; exact h2⟩
        rw [hTT] at hres
        simpa only [nodeV, cNd_mk, slN, cNds_one, List.length_singleton] using hres
end Go.Proofs.YtmcbfbpdfbcakaaDoor.A
