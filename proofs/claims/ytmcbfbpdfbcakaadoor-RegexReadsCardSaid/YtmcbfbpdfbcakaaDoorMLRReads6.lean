/- l4 part and Make: contracts. UNDER WAY. -/
import Derived.Test.YtmcbfbpdfbcakaaDoorRows
import Derived.Test.YtmcbfbpdfbcakaaDoorMLRReads1
import Derived.Test.YtmcbfbpdfbcakaaDoorMLRReads2
import Derived.Test.YtmcbfbpdfbcakaaDoorMLRReads3
import Derived.Test.YtmcbfbpdfbcakaaDoorMLRReads4
import Derived.Test.YtmcbfbpdfbcakaaDoorMLRReads5
set_option linter.unusedVariables false
set_option linter.unusedSimpArgs false
set_option linter.unnecessarySimpa false
namespace Go.Proofs.YtmcbfbpdfbcakaaDoor.A
open Go
set_option maxRecDepth 20000
theorem sign_conv (x : Int) : IntKind.u64.wrap (x % 5) = x % 5 := IntWalk.u64_in _ (by have := Int.emod_nonneg x (show (5 : Int) ≠ 0 by decide); have := Int.emod_lt_of_pos x (show (0 : Int) < 5 by decide); omega)
def RMk (l : List Rw) (args : List AV) (r : AV) : Prop := ∃ i, i < l.length ∧ args = [rawV (l.getD i default)] ∧ r = nodeV (makeN (l.getD i default))
theorem RMk_fn (l) : Fun1 (RMk l) := by
  rintro args r r' ⟨i, _, rfl, rfl⟩ ⟨j, _, h, rfl⟩
  simp only [List.cons.injEq, AV.agg.injEq, and_true] at h
  rw [cRw_inj h]
theorem lookPart (X) : lookedAt (EX md0 X) (fun _ => none) 2 Tryd.f46 = true := by kernel_rfl
theorem part_ok (k n : Int) (l : List Rw) (hch : ∀ i, i < l.length → Ok Tryd.prog 31 [rawV (l.getD i default)] (nodeV (makeN (l.getD i default)))) (i : Nat) (hi : i ≤ 1000000) :
    Ok Tryd.prog 46 [rawV (.mk k n l), .int .i64 i] (nodeV (partN n (makeNs l) i)) := by
  refine ok_of_WP (E := EX md0 (tabLook [(31, tRel (RMk l)), (17, tRel RW)])) (cr := noR) (tab_cons (tab_cons (tab_nil _) (tRel_ok within2_ok)) (tRel_ok (fun args r h => by obtain ⟨i, hi, rfl, rfl⟩ := h; exact hch i hi))) (noR_ok _) mixed (k := 0) Tryd.func46 (lookPart _) rfl ?_
  have hmk : ∀ j, j < l.length → tabLook [(31, tRel (RMk l)), (17, tRel RW)] 31 [rawV (l.getD j default)] = some (nodeV (makeN (l.getD j default))) := fun j hj => tRel_eq (RMk_fn l) ⟨j, hj, rfl, rfl⟩
  have hwi : ∀ a m : Int, 0 < m → m ≤ 1000000 → tabLook [(31, tRel (RMk l)), (17, tRel RW)] 17 [.int .i64 a, .int .i64 m] = some (.int .i64 (a % m)) := fun a m h1 h2 => rw_eq h1 h2
  simp only [Tryd.f46, Option.getD_some]
  by_cases hlt : i < l.length
  · have hat := cRws_at hlt
    have e : partN n (makeNs l) i = makeN (l.getD i default) := by rw [partN, makeNs_length, if_pos hlt, makeNs_get hlt]
    rw [e]
    have hm := hmk i hlt
    simp (disch := omega) only [go_sem, ↓IntWalk.iteOmega, IntWalk.toNatUp, Nat.reduceEqDiff, Nat.reduceAdd, Nat.reduceMul, Nat.reduceSub, Nat.reduceLT, Nat.reduceLeDiff, Int.reduceToNat, Int.reduceLT, Int.reduceLE, Int.reduceEq, Int.reduceAdd, Int.reduceSub, Int.reduceMul, Int.toNat_natCast, reduceCtorEq, decide_true, decide_false, IntWalk.i64_in, IntWalk.u64_in, IntWalk.u8_in, hat, hm]
  · have e : partN n (makeNs l) i = .mk 1 (sign (IntKind.i64.wrap (n + i))) 0 0 [] := by rw [partN, makeNs_length, if_neg hlt]
    rw [e]
    have hs := sign_conv (IntKind.i64.wrap (n + i))
    have hs0 := Int.emod_nonneg (IntKind.i64.wrap (n + i)) (show (5 : Int) ≠ 0 by decide)
    simp (disch := omega) only [go_sem, ↓IntWalk.iteOmega, IntWalk.toNatUp, Nat.reduceEqDiff, Nat.reduceAdd, Nat.reduceMul, Nat.reduceSub, Nat.reduceLT, Nat.reduceLeDiff, Int.reduceToNat, Int.reduceLT, Int.reduceLE, Int.reduceEq, Int.reduceAdd, Int.reduceSub, Int.reduceMul, Int.toNat_natCast, reduceCtorEq, decide_true, decide_false, IntWalk.i64_in, IntWalk.u64_in, IntWalk.u8_in, hwi, hs]
    simp only [nodeV, cNd_mk, sign, slN, cNds_nil, List.length_nil]
def nz34 : Nat → Option (List (Nat × Nat))
  | 17 => some [(1, 4), (1, 5)]
  | 25 => some [(1, 4), (1, 5)]
  | _ => none
theorem many4_in (n : Nat) : 2 ≤ many4 n ∧ many4 n ≤ 4 := by unfold many4; split <;> (try split) <;> omega
theorem many4_lt {n i : Nat} (h : i < many4 n) : i < 2 ∨ (2 ≤ i ∧ i < n ∧ i < 4) := by unfold many4 at h; split at h <;> (try split at h) <;> omega

theorem join_loop (k n : Int) (l : List Rw) (hpart : ∀ i : Nat, i ≤ 1000000 → Ok Tryd.prog 46 [rawV (.mk k n l), .int .i64 i] (nodeV (partN n (makeNs l) i))) (X : FuncId → List AV → Option AV)
    (hX : ∀ i : Nat, i ≤ 1000000 → X 46 [rawV (.mk k n l), .int .i64 i] = some (nodeV (partN n (makeNs l) i))) (kind : Int) {Q : WPost} (a : AAct) (o : Ob) (nx st : Nat) (hst : st < nx) (hst2 : 2 ≤ st)
    (h1 : a 1 = .ptr (0, 1) (0, 1) 0) (h2 : a 2 = .ptr (0, 2) (0, 2) 0) (h3 : a 3 = .ptr (st, 3) (st, 3) 0) (h4 : a 4 = .int .i64 0)
    (ho1 : o (0, 1) = some (.row ⟨56, 1, (0, 1), false, true, cRw (.mk k n l)⟩)) (ho2 : ∃ x, o (0, 2) = some (.row ⟨29, 1, (0, 2), false, true, x⟩) ∧ x.length = 5) (ho3 : o (st, 3) = some (.row ⟨29, 1, (st, 3), false, true, [.int .i64 kind, .int .i64 0, .int .i64 0, .int .i64 0, .nil]⟩))
    (hQ : ∀ a o nx, a 2 = .ptr (0, 2) (0, 2) 0 → (∃ v, o (0, 2) = some (.row ⟨29, 1, (0, 2), false, true, [.int .i64 kind, .int .i64 0, .int .i64 0, .int .i64 0, v]⟩) ∧ HS 29 5 63 o nx v (many4 l.length) (cNds ((List.range (many4 l.length)).map (partN n (makeNs l))))) → Q .ret a o nx) :
    WP (EX md0 X) noR 10 nz34 (pathC [1, 0, 1, 0, 1, 1, 1, 1, 1, 1, 1, 0, 1, 0, 1, 0] (Tryd.f31.body.getD .skip)) a o nx (blockQ 1 (thenQ (EX md0 X) noR 10 nz34 (pathC [1, 0, 1, 0, 1, 1, 1, 1, 1, 1, 1, 0, 1, 1] (Tryd.f31.body.getD .skip)) Q)) := by
  simp only [Tryd.f31, Option.getD_some, pathC]
  have hc := many4_in l.length
  refine WP_loop (fun m a o nx => ∃ i v, i ≤ many4 l.length ∧ m = many4 l.length - i ∧ st < nx ∧ a 1 = .ptr (0, 1) (0, 1) 0 ∧ a 2 = .ptr (0, 2) (0, 2) 0 ∧ a 3 = .ptr (st, 3) (st, 3) 0 ∧ a 4 = .int .i64 i ∧ HS 29 5 63 o nx v i (cNds ((List.range i).map (partN n (makeNs l)))) ∧
    o (0, 1) = some (.row ⟨56, 1, (0, 1), false, true, cRw (.mk k n l)⟩) ∧ (∃ x, o (0, 2) = some (.row ⟨29, 1, (0, 2), false, true, x⟩) ∧ x.length = 5) ∧ o (st, 3) = some (.row ⟨29, 1, (st, 3), false, true, [.int .i64 kind, .int .i64 0, .int .i64 0, .int .i64 0, v]⟩)) (many4 l.length) ?_ ⟨0, .nil, by omega, by omega, by omega, h1, h2, h3, h4, HS.nil, ho1, ho2, ho3⟩ ?_
  · omega
  · clear h1 h2 h3 h4 ho1 ho2 ho3
    rintro m a o nx ⟨i, v, hi, rfl, hnx, h1, h2, h3, h4, hHS, ho1, ⟨x, ho2, hx5⟩, ho3⟩
    have hok := hHS.ok
    by_cases hlt : i < many4 l.length
    · have hcond : i < 2 ∨ (2 ≤ i ∧ i < l.length ∧ i < 4) := many4_lt hlt
      have hp := hX i (by omega)
      simp only [rawV, nodeV, cRw_mk] at hp
      have hsn : (List.range (i + 1)).map (partN n (makeNs l)) = (List.range i).map (partN n (makeNs l)) ++ [partN n (makeNs l) i] := by rw [List.range_succ, List.map_append]; rfl
      rcases hHS with ⟨rfl, e2, e3⟩ | ⟨i1, g1, rfl, hi1, hrow, hlen⟩
      · rcases hcond with c | ⟨c1, c2, c3⟩
        · simp (disch := omega) only [go_sem, ↓IntWalk.iteOmega, IntWalk.toNatUp, Nat.reduceEqDiff, Nat.reduceAdd, Nat.reduceMul, Nat.reduceSub, Nat.reduceLT, Nat.reduceLeDiff, Int.reduceToNat, Int.reduceLT, Int.reduceLE, Int.reduceEq, Int.reduceAdd, Int.reduceSub, Int.reduceMul, Int.toNat_natCast, reduceCtorEq, decide_true, decide_false, IntWalk.i64_in, IntWalk.u64_in, IntWalk.u8_in, h1, h2, h3, h4, ho1, ho2, ho3, hp, nz34]
          refine ⟨_, ?_, i + 1, _, by omega, rfl, by omega, rfl, ?_, ⟨x, rfl, hx5⟩, rfl⟩
          · omega
          · rw [hsn, cNds_app, cNds_one, List.map_eq_nil_iff.2 (List.length_eq_zero_iff.1 (by rw [List.length_range]; exact e2)), cNds_nil]
            exact .inr ⟨nx + 1, _, by rw [e2], by omega, by simp [upd_app], by rw [List.nil_append, cNd_length, e2]⟩
        · omega
      · obtain ⟨cs, hcs⟩ : ∃ cs, cs = cNds ((List.range i).map (partN n (makeNs l))) := ⟨_, rfl⟩
        rw [← hcs] at hrow hlen
        have htk : cs.take (i * 5) = cs := take_len hlen
        have hfin : ∀ o' nx', o' (i1, 63) = some (.row ⟨29, 5, (nx + 1, 63), false, true, cs ++ cNd (partN n (makeNs l) i)⟩) → i1 < nx' → HS 29 5 63 o' nx' (.ref (i1, 63) (nx + 1, 63) 0 (i + 1)) (i + 1) (cNds ((List.range (i + 1)).map (partN n (makeNs l)))) := by
          intro o' nx' h h'
          rw [hsn, cNds_app, cNds_one, ← hcs]
          exact .inr ⟨i1, _, rfl, h', h, by rw [List.length_append, cNd_length, hlen]; omega⟩
        rcases hcond with c | ⟨c1, c2, c3⟩
        all_goals
          simp (disch := omega) only [go_sem, ↓IntWalk.iteOmega, IntWalk.toNatUp, Nat.reduceEqDiff, Nat.reduceAdd, Nat.reduceMul, Nat.reduceSub, Nat.reduceLT, Nat.reduceLeDiff, Int.reduceToNat, Int.reduceLT, Int.reduceLE, Int.reduceEq, Int.reduceAdd, Int.reduceSub, Int.reduceMul, Int.toNat_natCast, reduceCtorEq, decide_true, decide_false, IntWalk.i64_in, IntWalk.u64_in, IntWalk.u8_in, h1, h2, h3, h4, ho1, ho2, ho3, hp, hrow, nz34, hlen, htk]
          refine ⟨_, ?_, i + 1, _, by omega, rfl, by omega, rfl, hfin _ _ ?_ (by omega), ⟨x, rfl, hx5⟩, rfl⟩
          · omega
          · simp [upd_app]
    · have hie : i = many4 l.length := by omega
      have hc1 : ¬ i < 2 := by omega
      have hx0 : x.drop 5 = [] := List.drop_of_length_le (by omega)
      by_cases c2 : i < l.length
      · have c3 : ¬ i < 4 := by have := hie; unfold many4 at this; split at this <;> (try split at this) <;> omega
        simp (disch := omega) only [go_sem, ↓IntWalk.iteOmega, IntWalk.toNatUp, Nat.reduceEqDiff, Nat.reduceAdd, Nat.reduceMul, Nat.reduceSub, Nat.reduceLT, Nat.reduceLeDiff, Int.reduceToNat, Int.reduceLT, Int.reduceLE, Int.reduceEq, Int.reduceAdd, Int.reduceSub, Int.reduceMul, Int.toNat_natCast, reduceCtorEq, decide_true, decide_false, IntWalk.i64_in, IntWalk.u64_in, IntWalk.u8_in, h1, h2, h3, h4, ho1, ho2, ho3, hc1, hok]
        exact hQ _ _ _ (by simp [put_app, h2]) ⟨v, by rw [upd_same, hx0], by rw [← hie]; exact hHS.keep (fun _ _ => by simp [upd_app]) (by omega)⟩
      · simp (disch := omega) only [go_sem, ↓IntWalk.iteOmega, IntWalk.toNatUp, Nat.reduceEqDiff, Nat.reduceAdd, Nat.reduceMul, Nat.reduceSub, Nat.reduceLT, Nat.reduceLeDiff, Int.reduceToNat, Int.reduceLT, Int.reduceLE, Int.reduceEq, Int.reduceAdd, Int.reduceSub, Int.reduceMul, Int.toNat_natCast, reduceCtorEq, decide_true, decide_false, IntWalk.i64_in, IntWalk.u64_in, IntWalk.u8_in, h1, h2, h3, h4, ho1, ho2, ho3, hc1, hok]
        exact hQ _ _ _ (by simp [put_app, h2]) ⟨v, by rw [upd_same, hx0], by rw [← hie]; exact hHS.keep (fun _ _ => by simp [upd_app]) (by omega)⟩

theorem union_loop (k n : Int) (l : List Rw) (hpart : ∀ i : Nat, i ≤ 1000000 → Ok Tryd.prog 46 [rawV (.mk k n l), .int .i64 i] (nodeV (partN n (makeNs l) i))) (X : FuncId → List AV → Option AV)
    (hX : ∀ i : Nat, i ≤ 1000000 → X 46 [rawV (.mk k n l), .int .i64 i] = some (nodeV (partN n (makeNs l) i))) (kind : Int) {Q : WPost} (a : AAct) (o : Ob) (nx st : Nat) (hst : st < nx) (hst2 : 2 ≤ st)
    (h1 : a 1 = .ptr (0, 1) (0, 1) 0) (h2 : a 2 = .ptr (0, 2) (0, 2) 0) (h3 : a 5 = .ptr (st, 5) (st, 5) 0) (h4 : a 6 = .int .i64 0)
    (ho1 : o (0, 1) = some (.row ⟨56, 1, (0, 1), false, true, cRw (.mk k n l)⟩)) (ho2 : ∃ x, o (0, 2) = some (.row ⟨29, 1, (0, 2), false, true, x⟩) ∧ x.length = 5) (ho3 : o (st, 5) = some (.row ⟨29, 1, (st, 5), false, true, [.int .i64 kind, .int .i64 0, .int .i64 0, .int .i64 0, .nil]⟩))
    (hQ : ∀ a o nx, a 2 = .ptr (0, 2) (0, 2) 0 → (∃ v, o (0, 2) = some (.row ⟨29, 1, (0, 2), false, true, [.int .i64 kind, .int .i64 0, .int .i64 0, .int .i64 0, v]⟩) ∧ HS 29 5 91 o nx v (many4 l.length) (cNds ((List.range (many4 l.length)).map (partN n (makeNs l))))) → Q .ret a o nx) :
    WP (EX md0 X) noR 10 nz34 (pathC [1, 0, 1, 0, 1, 1, 1, 1, 1, 1, 1, 1, 1, 0, 1, 0, 1, 0] (Tryd.f31.body.getD .skip)) a o nx (blockQ 3 (thenQ (EX md0 X) noR 10 nz34 (pathC [1, 0, 1, 0, 1, 1, 1, 1, 1, 1, 1, 1, 1, 0, 1, 1] (Tryd.f31.body.getD .skip)) Q)) := by
  simp only [Tryd.f31, Option.getD_some, pathC]
  have hc := many4_in l.length
  refine WP_loop (fun m a o nx => ∃ i v, i ≤ many4 l.length ∧ m = many4 l.length - i ∧ st < nx ∧ a 1 = .ptr (0, 1) (0, 1) 0 ∧ a 2 = .ptr (0, 2) (0, 2) 0 ∧ a 5 = .ptr (st, 5) (st, 5) 0 ∧ a 6 = .int .i64 i ∧ HS 29 5 91 o nx v i (cNds ((List.range i).map (partN n (makeNs l)))) ∧
    o (0, 1) = some (.row ⟨56, 1, (0, 1), false, true, cRw (.mk k n l)⟩) ∧ (∃ x, o (0, 2) = some (.row ⟨29, 1, (0, 2), false, true, x⟩) ∧ x.length = 5) ∧ o (st, 5) = some (.row ⟨29, 1, (st, 5), false, true, [.int .i64 kind, .int .i64 0, .int .i64 0, .int .i64 0, v]⟩)) (many4 l.length) ?_ ⟨0, .nil, by omega, by omega, by omega, h1, h2, h3, h4, HS.nil, ho1, ho2, ho3⟩ ?_
  · omega
  · clear h1 h2 h3 h4 ho1 ho2 ho3
    rintro m a o nx ⟨i, v, hi, rfl, hnx, h1, h2, h3, h4, hHS, ho1, ⟨x, ho2, hx5⟩, ho3⟩
    have hok := hHS.ok
    by_cases hlt : i < many4 l.length
    · have hcond : i < 2 ∨ (2 ≤ i ∧ i < l.length ∧ i < 4) := many4_lt hlt
      have hp := hX i (by omega)
      simp only [rawV, nodeV, cRw_mk] at hp
      have hsn : (List.range (i + 1)).map (partN n (makeNs l)) = (List.range i).map (partN n (makeNs l)) ++ [partN n (makeNs l) i] := by rw [List.range_succ, List.map_append]; rfl
      rcases hHS with ⟨rfl, e2, e3⟩ | ⟨i1, g1, rfl, hi1, hrow, hlen⟩
      · rcases hcond with c | ⟨c1, c2, c3⟩
        · simp (disch := omega) only [go_sem, ↓IntWalk.iteOmega, IntWalk.toNatUp, Nat.reduceEqDiff, Nat.reduceAdd, Nat.reduceMul, Nat.reduceSub, Nat.reduceLT, Nat.reduceLeDiff, Int.reduceToNat, Int.reduceLT, Int.reduceLE, Int.reduceEq, Int.reduceAdd, Int.reduceSub, Int.reduceMul, Int.toNat_natCast, reduceCtorEq, decide_true, decide_false, IntWalk.i64_in, IntWalk.u64_in, IntWalk.u8_in, h1, h2, h3, h4, ho1, ho2, ho3, hp, nz34]
          refine ⟨_, ?_, i + 1, _, by omega, rfl, by omega, rfl, ?_, ⟨x, rfl, hx5⟩, rfl⟩
          · omega
          · rw [hsn, cNds_app, cNds_one, List.map_eq_nil_iff.2 (List.length_eq_zero_iff.1 (by rw [List.length_range]; exact e2)), cNds_nil]
            exact .inr ⟨nx + 1, _, by rw [e2], by omega, by simp [upd_app], by rw [List.nil_append, cNd_length, e2]⟩
        · omega
      · obtain ⟨cs, hcs⟩ : ∃ cs, cs = cNds ((List.range i).map (partN n (makeNs l))) := ⟨_, rfl⟩
        rw [← hcs] at hrow hlen
        have htk : cs.take (i * 5) = cs := take_len hlen
        have hfin : ∀ o' nx', o' (i1, 91) = some (.row ⟨29, 5, (nx + 1, 91), false, true, cs ++ cNd (partN n (makeNs l) i)⟩) → i1 < nx' → HS 29 5 91 o' nx' (.ref (i1, 91) (nx + 1, 91) 0 (i + 1)) (i + 1) (cNds ((List.range (i + 1)).map (partN n (makeNs l)))) := by
          intro o' nx' h h'
          rw [hsn, cNds_app, cNds_one, ← hcs]
          exact .inr ⟨i1, _, rfl, h', h, by rw [List.length_append, cNd_length, hlen]; omega⟩
        rcases hcond with c | ⟨c1, c2, c3⟩
        all_goals
          simp (disch := omega) only [go_sem, ↓IntWalk.iteOmega, IntWalk.toNatUp, Nat.reduceEqDiff, Nat.reduceAdd, Nat.reduceMul, Nat.reduceSub, Nat.reduceLT, Nat.reduceLeDiff, Int.reduceToNat, Int.reduceLT, Int.reduceLE, Int.reduceEq, Int.reduceAdd, Int.reduceSub, Int.reduceMul, Int.toNat_natCast, reduceCtorEq, decide_true, decide_false, IntWalk.i64_in, IntWalk.u64_in, IntWalk.u8_in, h1, h2, h3, h4, ho1, ho2, ho3, hp, hrow, nz34, hlen, htk]
          refine ⟨_, ?_, i + 1, _, by omega, rfl, by omega, rfl, hfin _ _ ?_ (by omega), ⟨x, rfl, hx5⟩, rfl⟩
          · omega
          · simp [upd_app]
    · have hie : i = many4 l.length := by omega
      have hc1 : ¬ i < 2 := by omega
      have hx0 : x.drop 5 = [] := List.drop_of_length_le (by omega)
      by_cases c2 : i < l.length
      · have c3 : ¬ i < 4 := by have := hie; unfold many4 at this; split at this <;> (try split at this) <;> omega
        simp (disch := omega) only [go_sem, ↓IntWalk.iteOmega, IntWalk.toNatUp, Nat.reduceEqDiff, Nat.reduceAdd, Nat.reduceMul, Nat.reduceSub, Nat.reduceLT, Nat.reduceLeDiff, Int.reduceToNat, Int.reduceLT, Int.reduceLE, Int.reduceEq, Int.reduceAdd, Int.reduceSub, Int.reduceMul, Int.toNat_natCast, reduceCtorEq, decide_true, decide_false, IntWalk.i64_in, IntWalk.u64_in, IntWalk.u8_in, h1, h2, h3, h4, ho1, ho2, ho3, hc1, hok]
        exact hQ _ _ _ (by simp [put_app, h2]) ⟨v, by rw [upd_same, hx0], by rw [← hie]; exact hHS.keep (fun _ _ => by simp [upd_app]) (by omega)⟩
      · simp (disch := omega) only [go_sem, ↓IntWalk.iteOmega, IntWalk.toNatUp, Nat.reduceEqDiff, Nat.reduceAdd, Nat.reduceMul, Nat.reduceSub, Nat.reduceLT, Nat.reduceLeDiff, Int.reduceToNat, Int.reduceLT, Int.reduceLE, Int.reduceEq, Int.reduceAdd, Int.reduceSub, Int.reduceMul, Int.toNat_natCast, reduceCtorEq, decide_true, decide_false, IntWalk.i64_in, IntWalk.u64_in, IntWalk.u8_in, h1, h2, h3, h4, ho1, ho2, ho3, hc1, hok]
        exact hQ _ _ _ (by simp [put_app, h2]) ⟨v, by rw [upd_same, hx0], by rw [← hie]; exact hHS.keep (fun _ _ => by simp [upd_app]) (by omega)⟩
end Go.Proofs.YtmcbfbpdfbcakaaDoor.A
/- Make: the expression of a raw one. -/
namespace Go.Proofs.YtmcbfbpdfbcakaaDoor.A
open Go
set_option maxRecDepth 20000
def RPart (k n : Int) (l : List Rw) (args : List AV) (r : AV) : Prop := ∃ i : Nat, i ≤ 1000000 ∧ args = [rawV (.mk k n l), .int .i64 i] ∧ r = nodeV (partN n (makeNs l) i)
theorem RPart_fn (k n l) : Fun1 (RPart k n l) := by
  rintro args r r' ⟨i, _, rfl, rfl⟩ ⟨j, _, h, rfl⟩
  simp only [List.cons.injEq, AV.int.injEq, and_true, true_and] at h
  rw [Int.ofNat_inj.1 h]
theorem lookMake (X) : lookedAt (EX md0 X) nz34 10 Tryd.f31 = true := by kernel_rfl
theorem make1_ok (k n : Int) (l : List Rw) (hpart : ∀ i : Nat, i ≤ 1000000 → Ok Tryd.prog 46 [rawV (.mk k n l), .int .i64 i] (nodeV (partN n (makeNs l) i))) :
    Ok Tryd.prog 31 [rawV (.mk k n l)] (nodeV (buildN k n (makeNs l))) := by
  refine ok_of_WP (E := EX md0 (tabLook [(46, tRel (RPart k n l)), (17, tRel RW)])) (cr := noR) (tab_cons (tab_cons (tab_nil _) (tRel_ok within2_ok)) (tRel_ok (fun args r h => by obtain ⟨i, hi, rfl, rfl⟩ := h; exact hpart i hi))) (noR_ok _) mixed (k := 10) Tryd.func31 (lookMake _) rfl ?_
  obtain ⟨X, hX⟩ : ∃ X, X = tabLook [(46, tRel (RPart k n l)), (17, tRel RW)] := ⟨_, rfl⟩
  have hp : ∀ j : Nat, j ≤ 1000000 → X 46 [rawV (.mk k n l), .int .i64 j] = some (nodeV (partN n (makeNs l) j)) := fun j hj => by rw [hX]; exact tRel_eq (RPart_fn k n l) ⟨j, hj, rfl, rfl⟩
  have hwi : ∀ a m : Int, 0 < m → m ≤ 1000000 → X 17 [.int .i64 a, .int .i64 m] = some (.int .i64 (a % m)) := fun a m h1 h2 => by rw [hX]; exact rw_eq h1 h2
  rw [← hX]
  clear hX
  simp only [Tryd.f31, Option.getD_some]
  have hk0 := Int.emod_nonneg k (show (14 : Int) ≠ 0 by decide)
  have hk1 := Int.emod_lt_of_pos k (show (0 : Int) < 14 by decide)
  have h31 := Int.emod_nonneg n (show (31 : Int) ≠ 0 by decide)
  have h31' := Int.emod_lt_of_pos n (show (0 : Int) < 31 by decide)
  have hp0 : X 46 [.agg [.int .i64 k, .int .i64 n, .sl l.length (cRws l)], .int .i64 0] = some (.agg (cNd (partN n (makeNs l) 0))) := by
    have := hp 0 (by omega)
    rw [rawV, nodeV, cRw_mk] at this
    exact this
  have hk : k % 14 = 0 ∨ k % 14 = 1 ∨ k % 14 = 2 ∨ k % 14 = 3 ∨ k % 14 = 4 ∨ k % 14 = 5 ∨ k % 14 = 6 ∨ k % 14 = 7 ∨ k % 14 = 8 ∨ k % 14 = 9 ∨ k % 14 = 10 ∨ k % 14 = 11 ∨ k % 14 = 12 ∨ k % 14 = 13 := by omega
  rcases hk with e | e | e | e | e | e | e | e | e | e | e | e | e | e
  · simp (disch := omega) only [go_sem, ↓IntWalk.iteOmega, IntWalk.toNatUp, Nat.reduceEqDiff, Nat.reduceAdd, Nat.reduceMul, Nat.reduceSub, Nat.reduceLT, Nat.reduceLeDiff, Int.reduceToNat, Int.reduceLT, Int.reduceLE, Int.reduceEq, Int.reduceAdd, Int.reduceSub, Int.reduceMul, Int.toNat_natCast, reduceCtorEq, decide_true, decide_false, IntWalk.i64_in, IntWalk.u64_in, IntWalk.u8_in, hwi, e, buildN]
    simp only [nodeV, cNd_mk, sign, slN, cNds_nil, List.length_nil]
  · simp (disch := omega) only [go_sem, ↓IntWalk.iteOmega, IntWalk.toNatUp, Nat.reduceEqDiff, Nat.reduceAdd, Nat.reduceMul, Nat.reduceSub, Nat.reduceLT, Nat.reduceLeDiff, Int.reduceToNat, Int.reduceLT, Int.reduceLE, Int.reduceEq, Int.reduceAdd, Int.reduceSub, Int.reduceMul, Int.toNat_natCast, reduceCtorEq, decide_true, decide_false, IntWalk.i64_in, IntWalk.u64_in, IntWalk.u8_in, hwi, e, buildN]
    simp only [nodeV, cNd_mk, sign, slN, cNds_nil, List.length_nil]
  · simp (disch := omega) only [go_sem, ↓IntWalk.iteOmega, IntWalk.toNatUp, Nat.reduceEqDiff, Nat.reduceAdd, Nat.reduceMul, Nat.reduceSub, Nat.reduceLT, Nat.reduceLeDiff, Int.reduceToNat, Int.reduceLT, Int.reduceLE, Int.reduceEq, Int.reduceAdd, Int.reduceSub, Int.reduceMul, Int.toNat_natCast, reduceCtorEq, decide_true, decide_false, IntWalk.i64_in, IntWalk.u64_in, IntWalk.u8_in, hwi, e, buildN]
    simp only [nodeV, cNd_mk, sign, slN, cNds_nil, List.length_nil]
  · simp (disch := omega) only [go_sem, ↓IntWalk.iteOmega, IntWalk.toNatUp, Nat.reduceEqDiff, Nat.reduceAdd, Nat.reduceMul, Nat.reduceSub, Nat.reduceLT, Nat.reduceLeDiff, Int.reduceToNat, Int.reduceLT, Int.reduceLE, Int.reduceEq, Int.reduceAdd, Int.reduceSub, Int.reduceMul, Int.toNat_natCast, reduceCtorEq, decide_true, decide_false, IntWalk.i64_in, IntWalk.u64_in, IntWalk.u8_in, hwi, e, buildN]
    simp only [nodeV, cNd_mk, sign, slN, cNds_nil, List.length_nil]
  · have h3 : n % 3 = 0 ∨ n % 3 = 1 ∨ n % 3 = 2 := by omega
    rcases h3 with e3 | e3 | e3
    all_goals
      simp (disch := omega) only [go_sem, ↓IntWalk.iteOmega, IntWalk.toNatUp, Nat.reduceEqDiff, Nat.reduceAdd, Nat.reduceMul, Nat.reduceSub, Nat.reduceLT, Nat.reduceLeDiff, Int.reduceToNat, Int.reduceLT, Int.reduceLE, Int.reduceEq, Int.reduceAdd, Int.reduceSub, Int.reduceMul, Int.toNat_natCast, reduceCtorEq, decide_true, decide_false, IntWalk.i64_in, IntWalk.u64_in, IntWalk.u8_in, hwi, e, e3, buildN]
      simp only [nodeV, cNd_mk, slN, cNds_nil, List.length_nil]
  · simp (disch := omega) only [go_sem, ↓IntWalk.iteOmega, IntWalk.toNatUp, Nat.reduceEqDiff, Nat.reduceAdd, Nat.reduceMul, Nat.reduceSub, Nat.reduceLT, Nat.reduceLeDiff, Int.reduceToNat, Int.reduceLT, Int.reduceLE, Int.reduceEq, Int.reduceAdd, Int.reduceSub, Int.reduceMul, Int.toNat_natCast, reduceCtorEq, decide_true, decide_false, IntWalk.i64_in, IntWalk.u64_in, IntWalk.u8_in, hwi, e, buildN]
    refine join_loop k n l hpart X hp 4 _ _ _ _ (by omega) (by omega) rfl rfl rfl rfl rfl ⟨_, rfl, rfl⟩ rfl ?_
    rintro a o nx h2 ⟨v, ho2, hHS⟩
    simp (disch := omega) only [go_sem, ↓IntWalk.iteOmega, IntWalk.toNatUp, Nat.reduceEqDiff, Nat.reduceAdd, Nat.reduceMul, Nat.reduceSub, Nat.reduceLT, Nat.reduceLeDiff, Int.reduceToNat, Int.reduceLT, Int.reduceLE, Int.reduceEq, Int.reduceAdd, Int.reduceSub, Int.reduceMul, Int.toNat_natCast, reduceCtorEq, decide_true, decide_false, IntWalk.i64_in, IntWalk.u64_in, IntWalk.u8_in, h2, ho2]
    rw [hHS.view, nodeV, cNd_mk, slN, List.length_map, List.length_range, makeNs_length, view_cNds]
  · simp (disch := omega) only [go_sem, ↓IntWalk.iteOmega, IntWalk.toNatUp, Nat.reduceEqDiff, Nat.reduceAdd, Nat.reduceMul, Nat.reduceSub, Nat.reduceLT, Nat.reduceLeDiff, Int.reduceToNat, Int.reduceLT, Int.reduceLE, Int.reduceEq, Int.reduceAdd, Int.reduceSub, Int.reduceMul, Int.toNat_natCast, reduceCtorEq, decide_true, decide_false, IntWalk.i64_in, IntWalk.u64_in, IntWalk.u8_in, hwi, e, buildN]
    refine join_loop k n l hpart X hp 4 _ _ _ _ (by omega) (by omega) rfl rfl rfl rfl rfl ⟨_, rfl, rfl⟩ rfl ?_
    rintro a o nx h2 ⟨v, ho2, hHS⟩
    simp (disch := omega) only [go_sem, ↓IntWalk.iteOmega, IntWalk.toNatUp, Nat.reduceEqDiff, Nat.reduceAdd, Nat.reduceMul, Nat.reduceSub, Nat.reduceLT, Nat.reduceLeDiff, Int.reduceToNat, Int.reduceLT, Int.reduceLE, Int.reduceEq, Int.reduceAdd, Int.reduceSub, Int.reduceMul, Int.toNat_natCast, reduceCtorEq, decide_true, decide_false, IntWalk.i64_in, IntWalk.u64_in, IntWalk.u8_in, h2, ho2]
    rw [hHS.view, nodeV, cNd_mk, slN, List.length_map, List.length_range, makeNs_length, view_cNds]
  · simp (disch := omega) only [go_sem, ↓IntWalk.iteOmega, IntWalk.toNatUp, Nat.reduceEqDiff, Nat.reduceAdd, Nat.reduceMul, Nat.reduceSub, Nat.reduceLT, Nat.reduceLeDiff, Int.reduceToNat, Int.reduceLT, Int.reduceLE, Int.reduceEq, Int.reduceAdd, Int.reduceSub, Int.reduceMul, Int.toNat_natCast, reduceCtorEq, decide_true, decide_false, IntWalk.i64_in, IntWalk.u64_in, IntWalk.u8_in, hwi, e, buildN]
    refine join_loop k n l hpart X hp 4 _ _ _ _ (by omega) (by omega) rfl rfl rfl rfl rfl ⟨_, rfl, rfl⟩ rfl ?_
    rintro a o nx h2 ⟨v, ho2, hHS⟩
    simp (disch := omega) only [go_sem, ↓IntWalk.iteOmega, IntWalk.toNatUp, Nat.reduceEqDiff, Nat.reduceAdd, Nat.reduceMul, Nat.reduceSub, Nat.reduceLT, Nat.reduceLeDiff, Int.reduceToNat, Int.reduceLT, Int.reduceLE, Int.reduceEq, Int.reduceAdd, Int.reduceSub, Int.reduceMul, Int.toNat_natCast, reduceCtorEq, decide_true, decide_false, IntWalk.i64_in, IntWalk.u64_in, IntWalk.u8_in, h2, ho2]
    rw [hHS.view, nodeV, cNd_mk, slN, List.length_map, List.length_range, makeNs_length, view_cNds]
  · simp (disch := omega) only [go_sem, ↓IntWalk.iteOmega, IntWalk.toNatUp, Nat.reduceEqDiff, Nat.reduceAdd, Nat.reduceMul, Nat.reduceSub, Nat.reduceLT, Nat.reduceLeDiff, Int.reduceToNat, Int.reduceLT, Int.reduceLE, Int.reduceEq, Int.reduceAdd, Int.reduceSub, Int.reduceMul, Int.toNat_natCast, reduceCtorEq, decide_true, decide_false, IntWalk.i64_in, IntWalk.u64_in, IntWalk.u8_in, hwi, e, buildN]
    refine union_loop k n l hpart X hp 5 _ _ _ _ (by omega) (by omega) rfl rfl rfl rfl rfl ⟨_, rfl, rfl⟩ rfl ?_
    rintro a o nx h2 ⟨v, ho2, hHS⟩
    simp (disch := omega) only [go_sem, ↓IntWalk.iteOmega, IntWalk.toNatUp, Nat.reduceEqDiff, Nat.reduceAdd, Nat.reduceMul, Nat.reduceSub, Nat.reduceLT, Nat.reduceLeDiff, Int.reduceToNat, Int.reduceLT, Int.reduceLE, Int.reduceEq, Int.reduceAdd, Int.reduceSub, Int.reduceMul, Int.toNat_natCast, reduceCtorEq, decide_true, decide_false, IntWalk.i64_in, IntWalk.u64_in, IntWalk.u8_in, h2, ho2]
    rw [hHS.view, nodeV, cNd_mk, slN, List.length_map, List.length_range, makeNs_length, view_cNds]
  · simp (disch := omega) only [go_sem, ↓IntWalk.iteOmega, IntWalk.toNatUp, Nat.reduceEqDiff, Nat.reduceAdd, Nat.reduceMul, Nat.reduceSub, Nat.reduceLT, Nat.reduceLeDiff, Int.reduceToNat, Int.reduceLT, Int.reduceLE, Int.reduceEq, Int.reduceAdd, Int.reduceSub, Int.reduceMul, Int.toNat_natCast, reduceCtorEq, decide_true, decide_false, IntWalk.i64_in, IntWalk.u64_in, IntWalk.u8_in, hwi, e, buildN]
    refine union_loop k n l hpart X hp 5 _ _ _ _ (by omega) (by omega) rfl rfl rfl rfl rfl ⟨_, rfl, rfl⟩ rfl ?_
    rintro a o nx h2 ⟨v, ho2, hHS⟩
    simp (disch := omega) only [go_sem, ↓IntWalk.iteOmega, IntWalk.toNatUp, Nat.reduceEqDiff, Nat.reduceAdd, Nat.reduceMul, Nat.reduceSub, Nat.reduceLT, Nat.reduceLeDiff, Int.reduceToNat, Int.reduceLT, Int.reduceLE, Int.reduceEq, Int.reduceAdd, Int.reduceSub, Int.reduceMul, Int.toNat_natCast, reduceCtorEq, decide_true, decide_false, IntWalk.i64_in, IntWalk.u64_in, IntWalk.u8_in, h2, ho2]
    rw [hHS.view, nodeV, cNd_mk, slN, List.length_map, List.length_range, makeNs_length, view_cNds]
  · simp (disch := omega) only [go_sem, ↓IntWalk.iteOmega, IntWalk.toNatUp, Nat.reduceEqDiff, Nat.reduceAdd, Nat.reduceMul, Nat.reduceSub, Nat.reduceLT, Nat.reduceLeDiff, Int.reduceToNat, Int.reduceLT, Int.reduceLE, Int.reduceEq, Int.reduceAdd, Int.reduceSub, Int.reduceMul, Int.toNat_natCast, reduceCtorEq, decide_true, decide_false, IntWalk.i64_in, IntWalk.u64_in, IntWalk.u8_in, hwi, e, buildN, hp0]
    simp only [nodeV, cNd_mk, slN, cNds_one, List.length_cons, List.length_nil]
  · simp (disch := omega) only [go_sem, ↓IntWalk.iteOmega, IntWalk.toNatUp, Nat.reduceEqDiff, Nat.reduceAdd, Nat.reduceMul, Nat.reduceSub, Nat.reduceLT, Nat.reduceLeDiff, Int.reduceToNat, Int.reduceLT, Int.reduceLE, Int.reduceEq, Int.reduceAdd, Int.reduceSub, Int.reduceMul, Int.toNat_natCast, reduceCtorEq, decide_true, decide_false, IntWalk.i64_in, IntWalk.u64_in, IntWalk.u8_in, hwi, e, buildN, hp0]
    simp only [nodeV, cNd_mk, slN, cNds_one, List.length_cons, List.length_nil]
  · simp (disch := omega) only [go_sem, ↓IntWalk.iteOmega, IntWalk.toNatUp, Nat.reduceEqDiff, Nat.reduceAdd, Nat.reduceMul, Nat.reduceSub, Nat.reduceLT, Nat.reduceLeDiff, Int.reduceToNat, Int.reduceLT, Int.reduceLE, Int.reduceEq, Int.reduceAdd, Int.reduceSub, Int.reduceMul, Int.toNat_natCast, reduceCtorEq, decide_true, decide_false, IntWalk.i64_in, IntWalk.u64_in, IntWalk.u8_in, hwi, e, buildN, hp0]
    simp only [nodeV, cNd_mk, slN, cNds_one, List.length_cons, List.length_nil]
  · have h4 := Int.emod_nonneg n (show (4 : Int) ≠ 0 by decide)
    have h4' := Int.emod_lt_of_pos n (show (0 : Int) < 4 by decide)
    have h5 := Int.emod_nonneg (IntKind.i64.wrap (n.tdiv 4)) (show (3 : Int) ≠ 0 by decide)
    have h5' := Int.emod_lt_of_pos (IntKind.i64.wrap (n.tdiv 4)) (show (0 : Int) < 3 by decide)
    simp (disch := omega) only [go_sem, ↓IntWalk.iteOmega, IntWalk.toNatUp, Nat.reduceEqDiff, Nat.reduceAdd, Nat.reduceMul, Nat.reduceSub, Nat.reduceLT, Nat.reduceLeDiff, Int.reduceToNat, Int.reduceLT, Int.reduceLE, Int.reduceEq, Int.reduceAdd, Int.reduceSub, Int.reduceMul, Int.toNat_natCast, reduceCtorEq, decide_true, decide_false, IntWalk.i64_in, IntWalk.u64_in, IntWalk.u8_in, hwi, e, buildN, hp0, nz34]
    simp only [nodeV, cNd_mk, slN, cNds_one, List.length_cons, List.length_nil]
theorem rmake_ok : ∀ r : Rw, Ok Tryd.prog 31 [rawV r] (nodeV (makeN r))
  | .mk k n l => by
    rw [makeN]
    refine make1_ok k n l (fun i hi => part_ok k n l (fun j hj => ?_) i (by omega))
    have : SizeOf.sizeOf (l.getD j default) < 1 + SizeOf.sizeOf k + SizeOf.sizeOf n + SizeOf.sizeOf l := by
      rw [List.getD_eq_getElem?_getD, List.getElem?_eq_getElem hj, Option.getD_some]
      have := List.sizeOf_lt_of_mem (List.getElem_mem hj)
      omega
    exact rmake_ok (l.getD j default)
termination_by r => SizeOf.sizeOf r
decreasing_by
  simp only [Rw.mk.sizeOf_spec]; exact this
end Go.Proofs.YtmcbfbpdfbcakaaDoor.A
/- size, Few, One: of raw expressions. -/
namespace Go.Proofs.YtmcbfbpdfbcakaaDoor.A
open Go
set_option maxRecDepth 20000
def kids : Rw → List Rw
  | .mk _ _ l => l
def szStep (f : List Rw → Int) (n : Int) (r : Rw) : Int := if n ≤ 14 then n + 1 + f (kids r) else n
def szD : Nat → List Rw → Int
  | 0, _ => 1000
  | d + 1, l => l.foldl (szStep (szD d)) 0
theorem sz_stuck {f : List Rw → Int} {n : Int} (h : ¬ n ≤ 14) : ∀ l : List Rw, l.foldl (szStep f) n = n
  | [] => rfl
  | r :: l => by rw [List.foldl_cons, szStep, if_neg h]; exact sz_stuck h l
theorem sz_in : ∀ (d : Nat) (l : List Rw), 0 ≤ szD d l ∧ szD d l ≤ 1000 + 15 * d
  | 0, l => by rw [szD]; omega
  | d + 1, l => by
    rw [szD]
    have : ∀ (l : List Rw) (n : Int), 0 ≤ n → n ≤ 1000 + 15 * (d + 1) → 0 ≤ l.foldl (szStep (szD d)) n ∧ l.foldl (szStep (szD d)) n ≤ 1000 + 15 * (d + 1) := by
      intro l
      induction l with
      | nil => exact fun n h1 h2 => ⟨h1, h2⟩
      | cons r l ih =>
        intro n h1 h2
        rw [List.foldl_cons]
        have := sz_in d (kids r)
        refine ih _ ?_ ?_ <;> unfold szStep <;> split <;> omega
    have := this l 0 (by omega) (by omega)
    omega
def RSize (d : Nat) (args : List AV) (r : AV) : Prop := ∃ l, args = [slR l, .int .i64 (7 - d)] ∧ r = .int .i64 (szD d l)
theorem RSize_fn (d) : Fun1 (RSize d) := by
  rintro args r r' ⟨l, rfl, rfl⟩ ⟨l', h, rfl⟩
  simp only [List.cons.injEq, AV.sl.injEq, and_true] at h
  rw [cRws_inj h.2]
theorem lookSize (X) : lookedAt (EX md0 X) (fun _ => none) 2 Tryd.f28 = true := by kernel_rfl
theorem size_ok : ∀ (d : Nat) (l : List Rw), d ≤ 7 → Ok Tryd.prog 28 [slR l, .int .i64 (7 - d)] (.int .i64 (szD d l))
  | 0, l, _ => by
    refine ok_of_WP (E := EX md0 (fun _ _ => none)) (cr := noR) (cp_none _) (noR_ok _) mixed (k := 20) Tryd.func28 (lookSize _) rfl ?_
    simp only [Tryd.f28, Option.getD_some, szD]
    simp (disch := omega) only [go_sem, ↓IntWalk.iteOmega, IntWalk.toNatUp, Nat.reduceEqDiff, Nat.reduceAdd, Nat.reduceMul, Nat.reduceSub, Nat.reduceLT, Nat.reduceLeDiff, Int.reduceToNat, Int.reduceLT, Int.reduceLE, Int.reduceEq, Int.reduceAdd, Int.reduceSub, Int.reduceMul, Int.toNat_natCast, reduceCtorEq, decide_true, decide_false, IntWalk.i64_in, IntWalk.u64_in, IntWalk.u8_in]
  | d + 1, l, hd => by
    refine ok_of_WP (E := EX md0 (tabLook [(28, tRel (RSize d))])) (cr := noR) (tab_cons (tab_nil _) (tRel_ok (fun args r h => by obtain ⟨l, rfl, rfl⟩ := h; exact size_ok d l (by omega)))) (noR_ok _) mixed (k := 20) Tryd.func28 (lookSize _) rfl ?_
    have hX : ∀ l : List Rw, tabLook [(28, tRel (RSize d))] 28 [.sl l.length (cRws l), .int .i64 (7 - d)] = some (.int .i64 (szD d l)) := fun l => tRel_eq (RSize_fn d) ⟨l, rfl, rfl⟩
    simp only [Tryd.f28, Option.getD_some]
    have h7 : ¬ ((7 : Int) - (d + 1 : Nat) > 6) := by omega
    simp (disch := omega) only [go_sem, ↓IntWalk.iteOmega, IntWalk.toNatUp, Nat.reduceEqDiff, Nat.reduceAdd, Nat.reduceMul, Nat.reduceSub, Nat.reduceLT, Nat.reduceLeDiff, Int.reduceToNat, Int.reduceLT, Int.reduceLE, Int.reduceEq, Int.reduceAdd, Int.reduceSub, Int.reduceMul, Int.toNat_natCast, reduceCtorEq, decide_true, decide_false, IntWalk.i64_in, IntWalk.u64_in, IntWalk.u8_in, h7]
    have hend : ∀ i, l.foldl (szStep (szD d)) 0 = (l.drop i).foldl (szStep (szD d)) ((l.take i).foldl (szStep (szD d)) 0) := fun i => by rw [← List.foldl_append, List.take_append_drop]
    refine WP_loop (fun m a o nx => ∃ (i : Nat) (s : Int), i ≤ l.length ∧ m = (15 - s).toNat ∧ a 0 = slR l ∧ a 1 = .int .i64 (7 - (d + 1 : Nat)) ∧ a 5 = .int .i64 s ∧ a 6 = .int .i64 i ∧ s = (l.take i).foldl (szStep (szD d)) 0 ∧ (i : Int) ≤ s ∧ s ≤ 2000) 15 (by omega) ⟨0, 0, by omega, rfl, by simp (disch := omega) only [go_sem, ↓IntWalk.iteOmega, IntWalk.toNatUp, Nat.reduceEqDiff, Nat.reduceAdd, Nat.reduceMul, Nat.reduceSub, Nat.reduceLT, Nat.reduceLeDiff, Int.reduceToNat, Int.reduceLT, Int.reduceLE, Int.reduceEq, Int.reduceAdd, Int.reduceSub, Int.reduceMul, Int.toNat_natCast, reduceCtorEq, decide_true, decide_false, IntWalk.i64_in, IntWalk.u64_in, IntWalk.u8_in], by simp (disch := omega) only [go_sem, ↓IntWalk.iteOmega, IntWalk.toNatUp, Nat.reduceEqDiff, Nat.reduceAdd, Nat.reduceMul, Nat.reduceSub, Nat.reduceLT, Nat.reduceLeDiff, Int.reduceToNat, Int.reduceLT, Int.reduceLE, Int.reduceEq, Int.reduceAdd, Int.reduceSub, Int.reduceMul, Int.toNat_natCast, reduceCtorEq, decide_true, decide_false, IntWalk.i64_in, IntWalk.u64_in, IntWalk.u8_in], by simp (disch := omega) only [go_sem, ↓IntWalk.iteOmega, IntWalk.toNatUp, Nat.reduceEqDiff, Nat.reduceAdd, Nat.reduceMul, Nat.reduceSub, Nat.reduceLT, Nat.reduceLeDiff, Int.reduceToNat, Int.reduceLT, Int.reduceLE, Int.reduceEq, Int.reduceAdd, Int.reduceSub, Int.reduceMul, Int.toNat_natCast, reduceCtorEq, decide_true, decide_false, IntWalk.i64_in, IntWalk.u64_in, IntWalk.u8_in], by simp (disch := omega) only [go_sem, ↓IntWalk.iteOmega, IntWalk.toNatUp, Nat.reduceEqDiff, Nat.reduceAdd, Nat.reduceMul, Nat.reduceSub, Nat.reduceLT, Nat.reduceLeDiff, Int.reduceToNat, Int.reduceLT, Int.reduceLE, Int.reduceEq, Int.reduceAdd, Int.reduceSub, Int.reduceMul, Int.toNat_natCast, reduceCtorEq, decide_true, decide_false, IntWalk.i64_in, IntWalk.u64_in, IntWalk.u8_in], rfl, by omega, by omega⟩ ?_
    rintro m a o nx ⟨i, s, hi, rfl, h0, h1, h5, h6, hs, hs0, hs1⟩
    have hi6 : (7 : Int) - (d + 1 : Nat) + 1 = 7 - d := by omega
    by_cases hlt : i < l.length
    · have hat := cRws_at hlt
      have htk : (l.take (i + 1)).foldl (szStep (szD d)) 0 = szStep (szD d) s (l.getD i default) := by rw [List.take_succ_eq_append_getElem hlt, List.foldl_append, ← hs, List.getD_eq_getElem?_getD, List.getElem?_eq_getElem hlt]; rfl
      obtain ⟨k, n, ch, hch⟩ : ∃ k n ch, l.getD i default = .mk k n ch := by cases l.getD i default with | mk k n ch => exact ⟨_, _, _, rfl⟩
      have hsz := sz_in d ch
      by_cases h14 : s ≤ 14
      · rw [hch, szStep, if_pos h14] at htk
        rw [hch] at hat
        have hx := hX ch
        simp (disch := omega) only [go_sem, ↓IntWalk.iteOmega, IntWalk.toNatUp, Nat.reduceEqDiff, Nat.reduceAdd, Nat.reduceMul, Nat.reduceSub, Nat.reduceLT, Nat.reduceLeDiff, Int.reduceToNat, Int.reduceLT, Int.reduceLE, Int.reduceEq, Int.reduceAdd, Int.reduceSub, Int.reduceMul, Int.toNat_natCast, reduceCtorEq, decide_true, decide_false, IntWalk.i64_in, IntWalk.u64_in, IntWalk.u8_in, h0, h1, h5, h6, hat, hx, hi6]
        exact ⟨_, by omega, i + 1, _, by omega, rfl, rfl, rfl, by rw [htk]; rfl, by omega, by omega⟩
      · simp (disch := omega) only [go_sem, ↓IntWalk.iteOmega, IntWalk.toNatUp, Nat.reduceEqDiff, Nat.reduceAdd, Nat.reduceMul, Nat.reduceSub, Nat.reduceLT, Nat.reduceLeDiff, Int.reduceToNat, Int.reduceLT, Int.reduceLE, Int.reduceEq, Int.reduceAdd, Int.reduceSub, Int.reduceMul, Int.toNat_natCast, reduceCtorEq, decide_true, decide_false, IntWalk.i64_in, IntWalk.u64_in, IntWalk.u8_in, h0, h1, h5, h6]
        rw [szD, hend i, ← hs, sz_stuck h14]
    · simp (disch := omega) only [go_sem, ↓IntWalk.iteOmega, IntWalk.toNatUp, Nat.reduceEqDiff, Nat.reduceAdd, Nat.reduceMul, Nat.reduceSub, Nat.reduceLT, Nat.reduceLeDiff, Int.reduceToNat, Int.reduceLT, Int.reduceLE, Int.reduceEq, Int.reduceAdd, Int.reduceSub, Int.reduceMul, Int.toNat_natCast, reduceCtorEq, decide_true, decide_false, IntWalk.i64_in, IntWalk.u64_in, IntWalk.u8_in, h0, h1, h5, h6]
      rw [szD, hend i, ← hs, List.drop_of_length_le (by omega)]
      rfl
def fewR (l : List Rw) : Bool := decide (szD 7 l ≤ 14)
theorem lookFew4 (X) : lookedAt (EX md0 X) (fun _ => none) 1 Tryd.f14 = true := by kernel_rfl
theorem few4_ok (l : List Rw) : Ok Tryd.prog 14 [slR l] (.bool (fewR l)) := by
  refine ok_of_WP (E := EX md0 (tabLook [(28, tRel (RSize 7))])) (cr := noR) (tab_cons (tab_nil _) (tRel_ok (fun args r h => by obtain ⟨l, rfl, rfl⟩ := h; exact size_ok 7 l (by omega)))) (noR_ok _) mixed (k := 0) Tryd.func14 (lookFew4 _) rfl ?_
  have hX : tabLook [(28, tRel (RSize 7))] 28 [.sl l.length (cRws l), .int .i64 0] = some (.int .i64 (szD 7 l)) := tRel_eq (RSize_fn 7) ⟨l, rfl, rfl⟩
  simp only [Tryd.f14, Option.getD_some]
  simp (disch := omega) only [go_sem, ↓IntWalk.iteOmega, IntWalk.toNatUp, Nat.reduceEqDiff, Nat.reduceAdd, Nat.reduceMul, Nat.reduceSub, Nat.reduceLT, Nat.reduceLeDiff, Int.reduceToNat, Int.reduceLT, Int.reduceLE, Int.reduceEq, Int.reduceAdd, Int.reduceSub, Int.reduceMul, Int.toNat_natCast, reduceCtorEq, decide_true, decide_false, IntWalk.i64_in, IntWalk.u64_in, IntWalk.u8_in, hX]
  rfl
def oneN (l : List Rw) : Nd := match l with | [] => .mk 1 1 0 0 [] | r :: _ => makeN r
def RMakeN (args : List AV) (r : AV) : Prop := ∃ x, args = [rawV x] ∧ r = nodeV (makeN x)
theorem RMakeN_fn : Fun1 RMakeN := by
  rintro args r r' ⟨i, rfl, rfl⟩ ⟨j, h, rfl⟩
  simp only [List.cons.injEq, AV.agg.injEq, and_true] at h
  rw [cRw_inj h]
theorem lookOne (X) : lookedAt (EX md0 X) (fun _ => none) 1 Tryd.f16 = true := by kernel_rfl
theorem one_ok (l : List Rw) : Ok Tryd.prog 16 [slR l] (nodeV (oneN l)) := by
  refine ok_of_WP (E := EX md0 (tabLook [(31, tRel RMakeN)])) (cr := noR) (tab_cons (tab_nil _) (tRel_ok (fun args r h => by obtain ⟨l, rfl, rfl⟩ := h; exact rmake_ok l))) (noR_ok _) mixed (k := 0) Tryd.func16 (lookOne _) rfl ?_
  simp only [Tryd.f16, Option.getD_some]
  cases l with
  | nil =>
    simp (disch := omega) only [go_sem, ↓IntWalk.iteOmega, IntWalk.toNatUp, Nat.reduceEqDiff, Nat.reduceAdd, Nat.reduceMul, Nat.reduceSub, Nat.reduceLT, Nat.reduceLeDiff, Int.reduceToNat, Int.reduceLT, Int.reduceLE, Int.reduceEq, Int.reduceAdd, Int.reduceSub, Int.reduceMul, Int.toNat_natCast, reduceCtorEq, decide_true, decide_false, IntWalk.i64_in, IntWalk.u64_in, IntWalk.u8_in]
    simp only [nodeV, oneN, cNd_mk, slN, cNds_nil, List.length_nil]
  | cons r l =>
    have hX : tabLook [(31, tRel RMakeN)] 31 [.agg (cRw r)] = some (nodeV (makeN r)) := tRel_eq RMakeN_fn ⟨r, rfl, rfl⟩
    have hat := cRws_cons r l
    simp (disch := omega) only [go_sem, ↓IntWalk.iteOmega, IntWalk.toNatUp, Nat.reduceEqDiff, Nat.reduceAdd, Nat.reduceMul, Nat.reduceSub, Nat.reduceLT, Nat.reduceLeDiff, Int.reduceToNat, Int.reduceLT, Int.reduceLE, Int.reduceEq, Int.reduceAdd, Int.reduceSub, Int.reduceMul, Int.toNat_natCast, reduceCtorEq, decide_true, decide_false, IntWalk.i64_in, IntWalk.u64_in, IntWalk.u8_in, hX, hat]
    rfl
end Go.Proofs.YtmcbfbpdfbcakaaDoor.A
/- Right expressions: the plain law. -/
namespace Go.Proofs.YtmcbfbpdfbcakaaDoor.A
open Go
set_option maxRecDepth 20000
def countN (k : Int) (n : Nat) : Bool := if k = 1 ∨ k = 2 ∨ k = 3 then n == 0 else if k = 4 ∨ k = 5 then decide (2 ≤ n) else if k = 6 ∨ k = 7 ∨ k = 8 ∨ k = 9 then n == 1 else false
def headN (k s lo hi : Int) (n : Nat) : Bool := countN k n && decide (k = 1 ∨ s = 0) && decide (k = 9 ∨ (lo = 0 ∧ hi = 0)) && decide (k = 1 → 1 ≤ s ∧ s ≤ 31) && decide (0 ≤ lo ∧ lo ≤ hi ∧ hi ≤ 9)
mutual
def rightN : Nd → Bool
  | .mk k s lo hi l => headN k s lo hi l.length && rightNs l
def rightNs : List Nd → Bool
  | [] => true
  | x :: l => rightN x && rightNs l
end
/-- What a node's own numbers may be: three ways that are right, ten that are not. -/
theorem headN_cases (k s lo hi : Int) : ((k = 1 ∧ lo = 0 ∧ hi = 0 ∧ 1 ≤ s ∧ s ≤ 31) ∨ (k = 9 ∧ s = 0 ∧ 0 ≤ lo ∧ lo ≤ hi ∧ hi ≤ 9) ∨ (k ≠ 1 ∧ k ≠ 9 ∧ s = 0 ∧ lo = 0 ∧ hi = 0)) ∨
    (k ≠ 1 ∧ s ≠ 0) ∨ (k = 1 ∧ lo ≠ 0) ∨ (k = 1 ∧ lo = 0 ∧ hi ≠ 0) ∨ (k ≠ 1 ∧ k ≠ 9 ∧ s = 0 ∧ lo ≠ 0) ∨ (k ≠ 1 ∧ k ≠ 9 ∧ s = 0 ∧ lo = 0 ∧ hi ≠ 0) ∨ (k = 1 ∧ lo = 0 ∧ hi = 0 ∧ s < 1) ∨ (k = 1 ∧ lo = 0 ∧ hi = 0 ∧ 1 ≤ s ∧ 31 < s) ∨
    (k = 9 ∧ s = 0 ∧ lo < 0) ∨ (k = 9 ∧ s = 0 ∧ 0 ≤ lo ∧ hi < lo) ∨ (k = 9 ∧ s = 0 ∧ 0 ≤ lo ∧ lo ≤ hi ∧ 9 < hi) := by
  by_cases c1 : k = 1
  · by_cases c2 : lo = 0
    · by_cases c3 : hi = 0
      · by_cases c4 : s < 1
        · exact .inr (.inr (.inr (.inr (.inr (.inr (.inl ⟨c1, c2, c3, c4⟩))))))
        · by_cases c5 : 31 < s
          · exact .inr (.inr (.inr (.inr (.inr (.inr (.inr (.inl ⟨c1, c2, c3, by omega, c5⟩)))))))
          · exact .inl (.inl ⟨c1, c2, c3, by omega, by omega⟩)
      · exact .inr (.inr (.inr (.inl ⟨c1, c2, c3⟩)))
    · exact .inr (.inr (.inl ⟨c1, c2⟩))
  · by_cases c2 : s = 0
    · by_cases c3 : k = 9
      · by_cases c4 : lo < 0
        · exact .inr (.inr (.inr (.inr (.inr (.inr (.inr (.inr (.inl ⟨c3, c2, c4⟩))))))))
        · by_cases c5 : hi < lo
          · exact .inr (.inr (.inr (.inr (.inr (.inr (.inr (.inr (.inr (.inl ⟨c3, c2, by omega, c5⟩)))))))))
          · by_cases c6 : 9 < hi
            · exact .inr (.inr (.inr (.inr (.inr (.inr (.inr (.inr (.inr (.inr ⟨c3, c2, by omega, by omega, c6⟩)))))))))
            · exact .inl (.inr (.inl ⟨c3, c2, by omega, by omega, by omega⟩))
      · by_cases c4 : lo = 0
        · by_cases c5 : hi = 0
          · exact .inl (.inr (.inr ⟨c1, c3, c2, c4, c5⟩))
          · exact .inr (.inr (.inr (.inr (.inr (.inl ⟨c1, c3, c2, c4, c5⟩)))))
        · exact .inr (.inr (.inr (.inr (.inl ⟨c1, c3, c2, c4⟩))))
    · exact .inr (.inl ⟨c1, c2⟩)
theorem rightNs_all {l : List Nd} : rightNs l = l.all rightN := by
  induction l with
  | nil => rw [rightNs]; rfl
  | cons x l ih => rw [rightNs, ih, List.all_cons]
mutual
/-- No list of parts is too long. -/
def wideN : Nd → Bool
  | .mk _ _ _ _ l => decide (l.length ≤ 1000) && wideNs l
def wideNs : List Nd → Bool
  | [] => true
  | x :: l => wideN x && wideNs l
end
theorem wideNs_all {l : List Nd} : wideNs l = l.all wideN := by
  induction l with
  | nil => rw [wideNs]; rfl
  | cons x l ih => rw [wideNs, ih, List.all_cons]
theorem wide_at {l : List Nd} (h : wideNs l = true) {i : Nat} (hi : i < l.length) : wideN (l.getD i default) = true := by
  rw [wideNs_all, List.all_eq_true] at h
  rw [List.getD_eq_getElem?_getD, List.getElem?_eq_getElem hi]
  exact h _ (List.getElem_mem hi)
theorem size_at_lt {l : List Nd} {j : Nat} (hj : j < l.length) (k s lo hi : Int) : SizeOf.sizeOf (l.getD j default) < SizeOf.sizeOf (Nd.mk k s lo hi l) := by
  rw [List.getD_eq_getElem?_getD, List.getElem?_eq_getElem hj, Option.getD_some]
  have := List.sizeOf_lt_of_mem (List.getElem_mem hj)
  simp only [Nd.mk.sizeOf_spec]
  omega
/-! ### a right node's numbers -/
theorem right_cases {k s lo hi : Int} {l : List Nd} (h : rightN (.mk k s lo hi l) = true) : (∀ x ∈ l, rightN x = true) ∧
    ((k = 1 ∧ l = [] ∧ lo = 0 ∧ hi = 0 ∧ 1 ≤ s ∧ s ≤ 31) ∨ ((k = 2 ∨ k = 3) ∧ l = [] ∧ s = 0 ∧ lo = 0 ∧ hi = 0) ∨ ((k = 4 ∨ k = 5) ∧ s = 0 ∧ lo = 0 ∧ hi = 0 ∧ ∃ x y r, l = x :: y :: r) ∨
     ((k = 6 ∨ k = 7 ∨ k = 8) ∧ s = 0 ∧ lo = 0 ∧ hi = 0 ∧ ∃ x, l = [x]) ∨ (k = 9 ∧ s = 0 ∧ 0 ≤ lo ∧ lo ≤ hi ∧ hi ≤ 9 ∧ ∃ x, l = [x])) := by
  rw [rightN, Bool.and_eq_true, rightNs_all] at h
  obtain ⟨h, hl⟩ := h
  refine ⟨fun x hx => List.all_eq_true.1 hl x hx, ?_⟩
  simp only [headN, Bool.and_eq_true, decide_eq_true_eq] at h
  obtain ⟨⟨⟨⟨hc, h1⟩, h2⟩, h3⟩, h4⟩ := h
  unfold countN at hc
  split at hc
  · rename_i hk
    have hl0 : l = [] := by simpa using hc
    rcases hk with rfl | rfl | rfl
    · have := h3 rfl
      have := h2.resolve_left (by decide)
      exact .inl ⟨rfl, hl0, by omega, by omega, by omega, by omega⟩
    · have := h2.resolve_left (by decide)
      have := h1.resolve_left (by decide)
      exact .inr (.inl ⟨.inl rfl, hl0, by omega, by omega, by omega⟩)
    · have := h2.resolve_left (by decide)
      have := h1.resolve_left (by decide)
      exact .inr (.inl ⟨.inr rfl, hl0, by omega, by omega, by omega⟩)
  · split at hc
    · rename_i hk
      have hl2 : ∃ x y r, l = x :: y :: r := by
        match l, hc with
        | x :: y :: r, _ => exact ⟨x, y, r, rfl⟩
      have := h2.resolve_left (by omega)
      have := h1.resolve_left (by omega)
      exact .inr (.inr (.inl ⟨hk, by omega, by omega, by omega, hl2⟩))
    · split at hc
      · rename_i hk
        have hl1 : ∃ x, l = [x] := by
          match l, hc with
          | [x], _ => exact ⟨x, rfl⟩
        have := h1.resolve_left (by omega)
        by_cases h9 : k = 9
        · exact .inr (.inr (.inr (.inr ⟨h9, by omega, by omega, by omega, by omega, hl1⟩)))
        · have := h2.resolve_left h9
          exact .inr (.inr (.inr (.inl ⟨by omega, by omega, by omega, by omega, hl1⟩)))
      · cases hc
end Go.Proofs.YtmcbfbpdfbcakaaDoor.A
/- Raw expressions' trees are right, slim, not high. -/
namespace Go.Proofs.YtmcbfbpdfbcakaaDoor.A
open Go
set_option maxRecDepth 20000
mutual
def slimN : Nd → Bool
  | .mk _ _ _ _ l => decide (l.length ≤ 4) && slimNs l
def slimNs : List Nd → Bool
  | [] => true
  | x :: l => slimN x && slimNs l
end
mutual
def dN : Nd → Nat
  | .mk _ _ _ _ l => dNs l + 1
def dNs : List Nd → Nat
  | [] => 0
  | x :: l => max (dN x) (dNs l)
end
theorem slimNs_all {l : List Nd} : slimNs l = l.all slimN := by
  induction l with
  | nil => rw [slimNs]; rfl
  | cons x l ih => rw [slimNs, ih, List.all_cons]
mutual
theorem slim_wide : ∀ n : Nd, slimN n = true → wideN n = true
  | .mk k s lo hi l, h => by
    rw [slimN, Bool.and_eq_true, decide_eq_true_eq] at h
    rw [wideN, Bool.and_eq_true, decide_eq_true_eq]
    exact ⟨by omega, slims_wide l h.2⟩
theorem slims_wide : ∀ l : List Nd, slimNs l = true → wideNs l = true
  | [], _ => by rw [wideNs]
  | x :: l, h => by
    rw [slimNs, Bool.and_eq_true] at h
    rw [wideNs, slim_wide x h.1, slims_wide l h.2]; rfl
end
def okR (h : Nat) (x : Nd) : Prop := rightN x = true ∧ slimN x = true ∧ dN x ≤ h
theorem okR.mono {h h' x} (hx : okR h x) (hh : h ≤ h') : okR h' x := ⟨hx.1, hx.2.1, Nat.le_trans hx.2.2 hh⟩
theorem okR_list : ∀ (l : List Nd) (h : Nat), (∀ x ∈ l, okR h x) → rightNs l = true ∧ slimNs l = true ∧ dNs l ≤ h
  | [], h, _ => ⟨by rw [rightNs], by rw [slimNs], by rw [dNs]; omega⟩
  | x :: l, h, hl => by
    obtain ⟨h1, h2, h3⟩ := hl x List.mem_cons_self
    obtain ⟨g1, g2, g3⟩ := okR_list l h (fun y hy => hl y (List.mem_cons_of_mem _ hy))
    rw [rightNs, slimNs, dNs, h1, h2, g1, g2]
    exact ⟨rfl, rfl, by omega⟩
theorem okR_mk {k s lo hi : Int} {l : List Nd} {h : Nat} (hh : headN k s lo hi l.length = true) (hn : l.length ≤ 4) (hl : ∀ x ∈ l, okR h x) : okR (h + 1) (.mk k s lo hi l) := by
  obtain ⟨g1, g2, g3⟩ := okR_list l h hl
  refine ⟨by rw [rightN, hh, g1]; rfl, by rw [slimN, g2, decide_eq_true hn]; rfl, by rw [dN]; omega⟩
theorem sign_inR (x : Int) : 1 ≤ sign x ∧ sign x ≤ 31 := by
  have h1 := Int.emod_nonneg x (show (5 : Int) ≠ 0 by decide)
  have h2 := Int.emod_lt_of_pos x (show (0 : Int) < 5 by decide)
  unfold sign
  obtain ⟨m, hm⟩ : ∃ m, m = x % 5 := ⟨_, rfl⟩
  rw [← hm] at h1 h2 ⊢
  have : m = 0 ∨ m = 1 ∨ m = 2 ∨ m = 3 ∨ m = 4 := by omega
  rcases this with rfl | rfl | rfl | rfl | rfl <;> decide
theorem head_set {s : Int} (h : 1 ≤ s ∧ s ≤ 31) : headN 1 s 0 0 ([] : List Nd).length = true := by
  simp [headN, countN, h.1, h.2]
theorem okR_leaf {s : Int} (h : 1 ≤ s ∧ s ≤ 31) : okR 1 (.mk 1 s 0 0 []) := okR_mk (h := 0) (head_set h) (by simp) (fun x hx => by cases hx)
theorem partN_okR (n : Int) (ls : List Nd) (h : Nat) (h1 : 1 ≤ h) (hl : ∀ x ∈ ls, okR h x) (i : Nat) : okR h (partN n ls i) := by
  unfold partN
  split
  · rename_i hi
    rw [List.getD_eq_getElem?_getD, List.getElem?_eq_getElem hi]
    exact hl _ (List.getElem_mem hi)
  · exact (okR_leaf (sign_inR _)).mono h1
theorem many_okR (n : Int) (ls : List Nd) (h : Nat) (h1 : 1 ≤ h) (hl : ∀ x ∈ ls, okR h x) (k : Nat) : ∀ x ∈ (List.range k).map (partN n ls), okR h x := by
  intro x hx
  obtain ⟨i, _, rfl⟩ := List.mem_map.1 hx
  exact partN_okR n ls h h1 hl i
theorem buildN_okR (k n : Int) (ls : List Nd) (h : Nat) (h1 : 1 ≤ h) (hl : ∀ x ∈ ls, okR h x) : okR (h + 1) (buildN k n ls) := by
  have hm := many4_in ls.length
  have hp0 := partN_okR n ls h h1 hl 0
  have n4 : 0 ≤ n % 4 ∧ n % 4 < 4 := ⟨Int.emod_nonneg _ (by decide), Int.emod_lt_of_pos _ (by decide)⟩
  have n3 : 0 ≤ IntKind.i64.wrap (n.tdiv 4) % 3 ∧ IntKind.i64.wrap (n.tdiv 4) % 3 < 3 := ⟨Int.emod_nonneg _ (by decide), Int.emod_lt_of_pos _ (by decide)⟩
  have n31 : 0 ≤ n % 31 ∧ n % 31 < 31 := ⟨Int.emod_nonneg _ (by decide), Int.emod_lt_of_pos _ (by decide)⟩
  have hlist := many_okR n ls h h1 hl (many4 ls.length)
  have hlen : ((List.range (many4 ls.length)).map (partN n ls)).length = many4 ls.length := by simp
  have one : ∀ x ∈ [partN n ls 0], okR h x := fun x hx => by rw [List.mem_singleton.1 hx]; exact hp0
  unfold buildN
  repeat' split
  · exact (okR_leaf ⟨by omega, by omega⟩).mono (by omega)
  · exact (okR_leaf (sign_inR _)).mono (by omega)
  · exact okR_mk (by simp [headN, countN]) (by simp) (fun x hx => by cases hx)
  · exact okR_mk (by simp [headN, countN]) (by simp) (fun x hx => by cases hx)
  · refine okR_mk ?_ (by omega) hlist
    rw [hlen]; simp [headN, countN]; omega
  · refine okR_mk ?_ (by omega) hlist
    rw [hlen]; simp [headN, countN]; omega
  · exact okR_mk (by simp [headN, countN]) (by simp) one
  · exact okR_mk (by simp [headN, countN]) (by simp) one
  · exact okR_mk (by simp [headN, countN]) (by simp) one
  · refine okR_mk ?_ (by simp) one
    simp [headN, countN]; omega
theorem fold_leR {f : List Rw → Int} (hf : ∀ l, 0 ≤ f l) : ∀ (l : List Rw) (n : Int), l.foldl (szStep f) n ≤ 14 → n ≤ 14 ∧ ∀ r ∈ l, f (kids r) ≤ 14 ∨ n < 0
  | [], n, h => ⟨h, fun r hr => by cases hr⟩
  | r :: l, n, h => by
    rw [List.foldl_cons] at h
    obtain ⟨h1, h2⟩ := fold_leR hf l _ h
    have := hf (kids r)
    unfold szStep at h1 h2
    split at h1
    · rename_i hn
      rw [if_pos hn] at h2
      refine ⟨by omega, fun q hq => ?_⟩
      rcases List.mem_cons.1 hq with rfl | hq
      · omega
      · have := h2 q hq; omega
    · omega
theorem makeNs_memR : ∀ {l : List Rw} {x : Nd}, x ∈ makeNs l → ∃ r ∈ l, x = makeN r
  | [], x, h => by rw [makeNs] at h; cases h
  | r :: l, x, h => by
    rw [makeNs] at h
    rcases List.mem_cons.1 h with rfl | h
    · exact ⟨r, List.mem_cons_self, rfl⟩
    · obtain ⟨q, hq, e⟩ := makeNs_memR h
      exact ⟨q, List.mem_cons_of_mem _ hq, e⟩
theorem made_okR : ∀ (d : Nat) (l : List Rw), szD d l ≤ 14 → ∀ r ∈ l, okR (d + 1) (makeN r)
  | 0, l, h, _, _ => by rw [szD] at h; omega
  | d + 1, l, h, r, hr => by
    rw [szD] at h
    obtain ⟨_, h2⟩ := fold_leR (fun l => (sz_in d l).1) l 0 h
    have h3 : szD d (kids r) ≤ 14 := by have := h2 r hr; omega
    obtain ⟨k, n, ch⟩ := r
    have ih := made_okR d ch h3
    rw [makeN]
    exact buildN_okR k n _ (d + 1) (by omega) (fun x hx => by obtain ⟨q, hq, rfl⟩ := makeNs_memR hx; exact ih q hq)
theorem oneN_okR {l : List Rw} (h : fewR l = true) : okR 8 (oneN l) := by
  unfold fewR at h
  rw [decide_eq_true_eq] at h
  unfold oneN
  cases l with
  | nil => exact (okR_leaf ⟨by omega, by omega⟩).mono (by omega)
  | cons r l => exact made_okR 7 _ h r List.mem_cons_self
end Go.Proofs.YtmcbfbpdfbcakaaDoor.A
/- Whether an expression is right. -/
namespace Go.Proofs.YtmcbfbpdfbcakaaDoor.A
open Go
set_option maxRecDepth 20000
def RCount (args : List AV) (r : AV) : Prop := ∃ (k : Int) (n : Nat), args = [.int .i64 k, .int .i64 n] ∧ r = .bool (countN k n)
theorem RCount_fn : Fun1 RCount := by
  rintro args r r' ⟨k, n, rfl, rfl⟩ ⟨k', n', h, rfl⟩
  simp only [List.cons.injEq, AV.int.injEq, and_true, true_and] at h
  have : n = n' := by omega
  rw [h.1, this]
theorem lookCount (X) : lookedAt (EX md0 X) (fun _ => none) 2 Tryd.f44 = true := by kernel_rfl
theorem count_ok (args r) (h : RCount args r) : Ok Tryd.prog 44 args r := by
  obtain ⟨k, n, rfl, rfl⟩ := h
  refine ok_of_WP (E := EX md0 (fun _ _ => none)) (cp_none _) (noR_ok _) mixed (k := 0) Tryd.func44 (lookCount _) rfl ?_
  have e0 : (n == 0) = decide ((n : Int) = 0) := by rw [Bool.eq_iff_iff]; simp
  have e1 : (n == 1) = decide ((n : Int) = 1) := by rw [Bool.eq_iff_iff]; simp; omega
  have e2 : decide (2 ≤ n) = decide ((2 : Int) ≤ n) := by rw [Bool.eq_iff_iff]; simp; omega
  simp only [Tryd.f44, Option.getD_some]
  unfold countN
  rw [e0, e1, e2]
  by_cases c1 : k = 1
  · subst c1; simp (disch := omega) only [go_sem, ↓IntWalk.iteOmega, IntWalk.toNatUp, Nat.reduceEqDiff, Nat.reduceAdd, Nat.reduceMul, Nat.reduceSub, Nat.reduceLT, Nat.reduceLeDiff, Int.reduceToNat, Int.reduceLT, Int.reduceLE, Int.reduceEq, Int.reduceAdd, Int.reduceSub, Int.reduceMul, Int.toNat_natCast, reduceCtorEq, decide_true, decide_false, IntWalk.i64_in, IntWalk.u64_in, IntWalk.u8_in]
  by_cases c2 : k = 2
  · subst c2; simp (disch := omega) only [go_sem, ↓IntWalk.iteOmega, IntWalk.toNatUp, Nat.reduceEqDiff, Nat.reduceAdd, Nat.reduceMul, Nat.reduceSub, Nat.reduceLT, Nat.reduceLeDiff, Int.reduceToNat, Int.reduceLT, Int.reduceLE, Int.reduceEq, Int.reduceAdd, Int.reduceSub, Int.reduceMul, Int.toNat_natCast, reduceCtorEq, decide_true, decide_false, IntWalk.i64_in, IntWalk.u64_in, IntWalk.u8_in]
  by_cases c3 : k = 3
  · subst c3; simp (disch := omega) only [go_sem, ↓IntWalk.iteOmega, IntWalk.toNatUp, Nat.reduceEqDiff, Nat.reduceAdd, Nat.reduceMul, Nat.reduceSub, Nat.reduceLT, Nat.reduceLeDiff, Int.reduceToNat, Int.reduceLT, Int.reduceLE, Int.reduceEq, Int.reduceAdd, Int.reduceSub, Int.reduceMul, Int.toNat_natCast, reduceCtorEq, decide_true, decide_false, IntWalk.i64_in, IntWalk.u64_in, IntWalk.u8_in]
  by_cases c4 : k = 4
  · subst c4; simp (disch := omega) only [go_sem, ↓IntWalk.iteOmega, IntWalk.toNatUp, Nat.reduceEqDiff, Nat.reduceAdd, Nat.reduceMul, Nat.reduceSub, Nat.reduceLT, Nat.reduceLeDiff, Int.reduceToNat, Int.reduceLT, Int.reduceLE, Int.reduceEq, Int.reduceAdd, Int.reduceSub, Int.reduceMul, Int.toNat_natCast, reduceCtorEq, decide_true, decide_false, IntWalk.i64_in, IntWalk.u64_in, IntWalk.u8_in]
  by_cases c5 : k = 5
  · subst c5; simp (disch := omega) only [go_sem, ↓IntWalk.iteOmega, IntWalk.toNatUp, Nat.reduceEqDiff, Nat.reduceAdd, Nat.reduceMul, Nat.reduceSub, Nat.reduceLT, Nat.reduceLeDiff, Int.reduceToNat, Int.reduceLT, Int.reduceLE, Int.reduceEq, Int.reduceAdd, Int.reduceSub, Int.reduceMul, Int.toNat_natCast, reduceCtorEq, decide_true, decide_false, IntWalk.i64_in, IntWalk.u64_in, IntWalk.u8_in]
  by_cases c6 : k = 6
  · subst c6; simp (disch := omega) only [go_sem, ↓IntWalk.iteOmega, IntWalk.toNatUp, Nat.reduceEqDiff, Nat.reduceAdd, Nat.reduceMul, Nat.reduceSub, Nat.reduceLT, Nat.reduceLeDiff, Int.reduceToNat, Int.reduceLT, Int.reduceLE, Int.reduceEq, Int.reduceAdd, Int.reduceSub, Int.reduceMul, Int.toNat_natCast, reduceCtorEq, decide_true, decide_false, IntWalk.i64_in, IntWalk.u64_in, IntWalk.u8_in]
  by_cases c7 : k = 7
  · subst c7; simp (disch := omega) only [go_sem, ↓IntWalk.iteOmega, IntWalk.toNatUp, Nat.reduceEqDiff, Nat.reduceAdd, Nat.reduceMul, Nat.reduceSub, Nat.reduceLT, Nat.reduceLeDiff, Int.reduceToNat, Int.reduceLT, Int.reduceLE, Int.reduceEq, Int.reduceAdd, Int.reduceSub, Int.reduceMul, Int.toNat_natCast, reduceCtorEq, decide_true, decide_false, IntWalk.i64_in, IntWalk.u64_in, IntWalk.u8_in]
  by_cases c8 : k = 8
  · subst c8; simp (disch := omega) only [go_sem, ↓IntWalk.iteOmega, IntWalk.toNatUp, Nat.reduceEqDiff, Nat.reduceAdd, Nat.reduceMul, Nat.reduceSub, Nat.reduceLT, Nat.reduceLeDiff, Int.reduceToNat, Int.reduceLT, Int.reduceLE, Int.reduceEq, Int.reduceAdd, Int.reduceSub, Int.reduceMul, Int.toNat_natCast, reduceCtorEq, decide_true, decide_false, IntWalk.i64_in, IntWalk.u64_in, IntWalk.u8_in]
  by_cases c9 : k = 9
  · subst c9; simp (disch := omega) only [go_sem, ↓IntWalk.iteOmega, IntWalk.toNatUp, Nat.reduceEqDiff, Nat.reduceAdd, Nat.reduceMul, Nat.reduceSub, Nat.reduceLT, Nat.reduceLeDiff, Int.reduceToNat, Int.reduceLT, Int.reduceLE, Int.reduceEq, Int.reduceAdd, Int.reduceSub, Int.reduceMul, Int.toNat_natCast, reduceCtorEq, decide_true, decide_false, IntWalk.i64_in, IntWalk.u64_in, IntWalk.u8_in]
  simp only [c1, c2, c3, c4, c5, c6, c7, c8, c9, false_or, or_self, if_false]
  simp (disch := omega) only [go_sem, ↓IntWalk.iteOmega, IntWalk.toNatUp, Nat.reduceEqDiff, Nat.reduceAdd, Nat.reduceMul, Nat.reduceSub, Nat.reduceLT, Nat.reduceLeDiff, Int.reduceToNat, Int.reduceLT, Int.reduceLE, Int.reduceEq, Int.reduceAdd, Int.reduceSub, Int.reduceMul, Int.toNat_natCast, reduceCtorEq, decide_true, decide_false, IntWalk.i64_in, IntWalk.u64_in, IntWalk.u8_in, c1, c2, c3, c4, c5, c6, c7, c8, c9]
theorem lookRight (X) : lookedAt (EX md0 X) (fun _ => none) 1 Tryd.f23 = true := by kernel_rfl
set_option maxHeartbeats 4000000 in
theorem right_step (k s lo hi : Int) (l : List Nd) (hlen : l.length ≤ 1000) (X : FuncId → List AV → Option AV) (hc : ∀ (k : Int) (n : Nat), X 44 [.int .i64 k, .int .i64 n] = some (.bool (countN k n)))
    (hch : ∀ i, i < l.length → X 23 [nodeV (l.getD i default)] = some (.bool (rightN (l.getD i default)))) :
    WP (EX md0 X) noR 1002 (fun _ => none) (Tryd.f23.body.getD .skip) (begin_ [nodeV (.mk k s lo hi l)]) (fun _ => none) 0 (fun u a o nx => (u = .normal ∨ u = .ret) ∧ view o vDepth (a 2) = .bool (rightN (.mk k s lo hi l))) := by
  have hc0 := hc k l.length
  rw [rightN]
  simp only [Tryd.f23, Option.getD_some, nodeV, cNd_mk]
  cases hcn : countN k l.length with
  | false =>
    have hh : headN k s lo hi l.length = false := by simp only [headN, hcn, Bool.false_and]
    rw [hcn] at hc0
    rw [hh, Bool.false_and]
    simp (disch := omega) only [go_sem, ↓IntWalk.iteOmega, IntWalk.toNatUp, Nat.reduceEqDiff, Nat.reduceAdd, Nat.reduceMul, Nat.reduceSub, Nat.reduceLT, Nat.reduceLeDiff, Int.reduceToNat, Int.reduceLT, Int.reduceLE, Int.reduceEq, Int.reduceAdd, Int.reduceSub, Int.reduceMul, Int.toNat_natCast, reduceCtorEq, decide_true, decide_false, IntWalk.i64_in, IntWalk.u64_in, IntWalk.u8_in, hc0]
  | true =>
    rw [hcn] at hc0
    rcases headN_cases k s lo hi with hok | hbad
    · have hh : headN k s lo hi l.length = true := by
        simp only [headN, hcn, Bool.true_and, Bool.and_eq_true, decide_eq_true_eq]
        omega
      rw [hh, Bool.true_and]
      rcases hok with ⟨rfl, rfl, rfl, c4, c5⟩ | ⟨rfl, rfl, c3, c4, c5⟩ | ⟨c1, c2, rfl, rfl, rfl⟩
      all_goals
        simp (disch := omega) only [go_sem, ↓IntWalk.iteOmega, IntWalk.toNatUp, Nat.reduceEqDiff, Nat.reduceAdd, Nat.reduceMul, Nat.reduceSub, Nat.reduceLT, Nat.reduceLeDiff, Int.reduceToNat, Int.reduceLT, Int.reduceLE, Int.reduceEq, Int.reduceAdd, Int.reduceSub, Int.reduceMul, Int.toNat_natCast, reduceCtorEq, decide_true, decide_false, IntWalk.i64_in, IntWalk.u64_in, IntWalk.u8_in, hc0]
        refine WP_loop (fun m a o nx => ∃ i : Nat, i ≤ l.length ∧ m = l.length - i ∧ 2 ≤ nx ∧ a 68 = slN l ∧ a 69 = .int .i64 l.length ∧ a 70 = .int .i64 i ∧ (l.take i).all rightN = true) l.length (by omega) ⟨0, by omega, by omega, by omega, by simp (disch := omega) only [go_sem, ↓IntWalk.iteOmega, IntWalk.toNatUp, Nat.reduceEqDiff, Nat.reduceAdd, Nat.reduceMul, Nat.reduceSub, Nat.reduceLT, Nat.reduceLeDiff, Int.reduceToNat, Int.reduceLT, Int.reduceLE, Int.reduceEq, Int.reduceAdd, Int.reduceSub, Int.reduceMul, Int.toNat_natCast, reduceCtorEq, decide_true, decide_false, IntWalk.i64_in, IntWalk.u64_in, IntWalk.u8_in], by simp (disch := omega) only [go_sem, ↓IntWalk.iteOmega, IntWalk.toNatUp, Nat.reduceEqDiff, Nat.reduceAdd, Nat.reduceMul, Nat.reduceSub, Nat.reduceLT, Nat.reduceLeDiff, Int.reduceToNat, Int.reduceLT, Int.reduceLE, Int.reduceEq, Int.reduceAdd, Int.reduceSub, Int.reduceMul, Int.toNat_natCast, reduceCtorEq, decide_true, decide_false, IntWalk.i64_in, IntWalk.u64_in, IntWalk.u8_in], by simp (disch := omega) only [go_sem, ↓IntWalk.iteOmega, IntWalk.toNatUp, Nat.reduceEqDiff, Nat.reduceAdd, Nat.reduceMul, Nat.reduceSub, Nat.reduceLT, Nat.reduceLeDiff, Int.reduceToNat, Int.reduceLT, Int.reduceLE, Int.reduceEq, Int.reduceAdd, Int.reduceSub, Int.reduceMul, Int.toNat_natCast, reduceCtorEq, decide_true, decide_false, IntWalk.i64_in, IntWalk.u64_in, IntWalk.u8_in], rfl⟩ ?_
        rintro m a o nx ⟨i, hi, rfl, hnx, a68, a69, a70, hal⟩
        by_cases hlt : i < l.length
        · have hat := cNds_at hlt
          have hci := hch i hlt
          simp only [nodeV] at hci
          have htk := take_succ_getD hlt default
          generalize l.getD i default = x at *
          have hsplit : l.all rightN = ((l.take i).all rightN && (rightN x && (l.drop (i + 1)).all rightN)) := by
            conv => lhs; rw [← List.take_append_drop (i + 1) l]
            rw [htk, List.all_append, List.all_append]
            simp [Bool.and_assoc]
          cases hr : rightN x with
          | true =>
            rw [hr] at hci
            simp (disch := omega) only [go_sem, ↓IntWalk.iteOmega, IntWalk.toNatUp, Nat.reduceEqDiff, Nat.reduceAdd, Nat.reduceMul, Nat.reduceSub, Nat.reduceLT, Nat.reduceLeDiff, Int.reduceToNat, Int.reduceLT, Int.reduceLE, Int.reduceEq, Int.reduceAdd, Int.reduceSub, Int.reduceMul, Int.toNat_natCast, reduceCtorEq, decide_true, decide_false, IntWalk.i64_in, IntWalk.u64_in, IntWalk.u8_in, a68, a69, a70, hat, hci]
            exact ⟨_, by omega, i + 1, by omega, rfl, rfl, by rw [htk, List.all_append, hal]; simp [hr]⟩
          | false =>
            rw [hr] at hci
            simp (disch := omega) only [go_sem, ↓IntWalk.iteOmega, IntWalk.toNatUp, Nat.reduceEqDiff, Nat.reduceAdd, Nat.reduceMul, Nat.reduceSub, Nat.reduceLT, Nat.reduceLeDiff, Int.reduceToNat, Int.reduceLT, Int.reduceLE, Int.reduceEq, Int.reduceAdd, Int.reduceSub, Int.reduceMul, Int.toNat_natCast, reduceCtorEq, decide_true, decide_false, IntWalk.i64_in, IntWalk.u64_in, IntWalk.u8_in, a68, a69, a70, hat, hci]
            rw [rightNs_all, hsplit, hr, Bool.false_and, Bool.and_false]
        · have hie : i = l.length := by omega
          rw [hie, List.take_length] at hal
          simp (disch := omega) only [go_sem, ↓IntWalk.iteOmega, IntWalk.toNatUp, Nat.reduceEqDiff, Nat.reduceAdd, Nat.reduceMul, Nat.reduceSub, Nat.reduceLT, Nat.reduceLeDiff, Int.reduceToNat, Int.reduceLT, Int.reduceLE, Int.reduceEq, Int.reduceAdd, Int.reduceSub, Int.reduceMul, Int.toNat_natCast, reduceCtorEq, decide_true, decide_false, IntWalk.i64_in, IntWalk.u64_in, IntWalk.u8_in, a68, a69, a70]
          rw [rightNs_all, hal]
    · have hh : headN k s lo hi l.length = false := Bool.eq_false_iff.2 (fun h => by
        simp only [headN, hcn, Bool.true_and, Bool.and_eq_true, decide_eq_true_eq] at h
        omega)
      rw [hh, Bool.false_and]
      rcases hbad with ⟨c1, c2⟩ | ⟨rfl, c2⟩ | ⟨rfl, rfl, c3⟩ | ⟨c1, c2, rfl, c4⟩ | ⟨c1, c2, rfl, rfl, c5⟩ | ⟨rfl, rfl, rfl, c4⟩ | ⟨rfl, rfl, rfl, c4, c5⟩ | ⟨rfl, rfl, c3⟩ | ⟨rfl, rfl, c3, c4⟩ | ⟨rfl, rfl, c3, c4, c5⟩
      · simp (disch := omega) only [go_sem, ↓IntWalk.iteOmega, IntWalk.toNatUp, Nat.reduceEqDiff, Nat.reduceAdd, Nat.reduceMul, Nat.reduceSub, Nat.reduceLT, Nat.reduceLeDiff, Int.reduceToNat, Int.reduceLT, Int.reduceLE, Int.reduceEq, Int.reduceAdd, Int.reduceSub, Int.reduceMul, Int.toNat_natCast, reduceCtorEq, decide_true, decide_false, IntWalk.i64_in, IntWalk.u64_in, IntWalk.u8_in, hc0, c1, c2]
      · simp (disch := omega) only [go_sem, ↓IntWalk.iteOmega, IntWalk.toNatUp, Nat.reduceEqDiff, Nat.reduceAdd, Nat.reduceMul, Nat.reduceSub, Nat.reduceLT, Nat.reduceLeDiff, Int.reduceToNat, Int.reduceLT, Int.reduceLE, Int.reduceEq, Int.reduceAdd, Int.reduceSub, Int.reduceMul, Int.toNat_natCast, reduceCtorEq, decide_true, decide_false, IntWalk.i64_in, IntWalk.u64_in, IntWalk.u8_in, hc0, c2]
      · simp (disch := omega) only [go_sem, ↓IntWalk.iteOmega, IntWalk.toNatUp, Nat.reduceEqDiff, Nat.reduceAdd, Nat.reduceMul, Nat.reduceSub, Nat.reduceLT, Nat.reduceLeDiff, Int.reduceToNat, Int.reduceLT, Int.reduceLE, Int.reduceEq, Int.reduceAdd, Int.reduceSub, Int.reduceMul, Int.toNat_natCast, reduceCtorEq, decide_true, decide_false, IntWalk.i64_in, IntWalk.u64_in, IntWalk.u8_in, hc0, c3]
      · simp (disch := omega) only [go_sem, ↓IntWalk.iteOmega, IntWalk.toNatUp, Nat.reduceEqDiff, Nat.reduceAdd, Nat.reduceMul, Nat.reduceSub, Nat.reduceLT, Nat.reduceLeDiff, Int.reduceToNat, Int.reduceLT, Int.reduceLE, Int.reduceEq, Int.reduceAdd, Int.reduceSub, Int.reduceMul, Int.toNat_natCast, reduceCtorEq, decide_true, decide_false, IntWalk.i64_in, IntWalk.u64_in, IntWalk.u8_in, hc0, c1, c2, c4]
      · simp (disch := omega) only [go_sem, ↓IntWalk.iteOmega, IntWalk.toNatUp, Nat.reduceEqDiff, Nat.reduceAdd, Nat.reduceMul, Nat.reduceSub, Nat.reduceLT, Nat.reduceLeDiff, Int.reduceToNat, Int.reduceLT, Int.reduceLE, Int.reduceEq, Int.reduceAdd, Int.reduceSub, Int.reduceMul, Int.toNat_natCast, reduceCtorEq, decide_true, decide_false, IntWalk.i64_in, IntWalk.u64_in, IntWalk.u8_in, hc0, c1, c2, c5]
      · simp (disch := omega) only [go_sem, ↓IntWalk.iteOmega, IntWalk.toNatUp, Nat.reduceEqDiff, Nat.reduceAdd, Nat.reduceMul, Nat.reduceSub, Nat.reduceLT, Nat.reduceLeDiff, Int.reduceToNat, Int.reduceLT, Int.reduceLE, Int.reduceEq, Int.reduceAdd, Int.reduceSub, Int.reduceMul, Int.toNat_natCast, reduceCtorEq, decide_true, decide_false, IntWalk.i64_in, IntWalk.u64_in, IntWalk.u8_in, hc0, c4]
      · simp (disch := omega) only [go_sem, ↓IntWalk.iteOmega, IntWalk.toNatUp, Nat.reduceEqDiff, Nat.reduceAdd, Nat.reduceMul, Nat.reduceSub, Nat.reduceLT, Nat.reduceLeDiff, Int.reduceToNat, Int.reduceLT, Int.reduceLE, Int.reduceEq, Int.reduceAdd, Int.reduceSub, Int.reduceMul, Int.toNat_natCast, reduceCtorEq, decide_true, decide_false, IntWalk.i64_in, IntWalk.u64_in, IntWalk.u8_in, hc0, c4, c5]
      · simp (disch := omega) only [go_sem, ↓IntWalk.iteOmega, IntWalk.toNatUp, Nat.reduceEqDiff, Nat.reduceAdd, Nat.reduceMul, Nat.reduceSub, Nat.reduceLT, Nat.reduceLeDiff, Int.reduceToNat, Int.reduceLT, Int.reduceLE, Int.reduceEq, Int.reduceAdd, Int.reduceSub, Int.reduceMul, Int.toNat_natCast, reduceCtorEq, decide_true, decide_false, IntWalk.i64_in, IntWalk.u64_in, IntWalk.u8_in, hc0, c3]
      · simp (disch := omega) only [go_sem, ↓IntWalk.iteOmega, IntWalk.toNatUp, Nat.reduceEqDiff, Nat.reduceAdd, Nat.reduceMul, Nat.reduceSub, Nat.reduceLT, Nat.reduceLeDiff, Int.reduceToNat, Int.reduceLT, Int.reduceLE, Int.reduceEq, Int.reduceAdd, Int.reduceSub, Int.reduceMul, Int.toNat_natCast, reduceCtorEq, decide_true, decide_false, IntWalk.i64_in, IntWalk.u64_in, IntWalk.u8_in, hc0, c3, c4]
      · simp (disch := omega) only [go_sem, ↓IntWalk.iteOmega, IntWalk.toNatUp, Nat.reduceEqDiff, Nat.reduceAdd, Nat.reduceMul, Nat.reduceSub, Nat.reduceLT, Nat.reduceLeDiff, Int.reduceToNat, Int.reduceLT, Int.reduceLE, Int.reduceEq, Int.reduceAdd, Int.reduceSub, Int.reduceMul, Int.toNat_natCast, reduceCtorEq, decide_true, decide_false, IntWalk.i64_in, IntWalk.u64_in, IntWalk.u8_in, hc0, c3, c4, c5]
def RRight (l : List Nd) (args : List AV) (r : AV) : Prop := ∃ i, i < l.length ∧ args = [nodeV (l.getD i default)] ∧ r = .bool (rightN (l.getD i default))
theorem RRight_fn (l) : Fun1 (RRight l) := by
  rintro args r r' ⟨i, _, rfl, rfl⟩ ⟨j, _, h, rfl⟩
  simp only [List.cons.injEq, AV.agg.injEq, and_true] at h
  rw [cNd_inj h]
theorem right_ok : ∀ n : Nd, wideN n = true → Ok Tryd.prog 23 [nodeV n] (.bool (rightN n))
  | .mk k s lo hi l, hw => by
    rw [wideN, Bool.and_eq_true, decide_eq_true_eq] at hw
    refine ok_of_WP (E := EX md0 (tabLook [(23, tRel (RRight l)), (44, tRel RCount)])) (cr := noR) (tab_cons (tab_cons (tab_nil _) (tRel_ok count_ok)) (tRel_ok (fun args r h => by
      obtain ⟨j, hj, rfl, rfl⟩ := h
      have := size_at_lt hj k s lo hi
      exact right_ok (l.getD j default) (wide_at hw.2 hj)))) (noR_ok _) mixed (k := 1002) Tryd.func23 (lookRight _) rfl
      (WP_mono (right_step k s lo hi l hw.1 _ (fun k n => tRel_eq RCount_fn ⟨k, n, rfl, rfl⟩) (fun i hi => tRel_eq (RRight_fn l) ⟨i, hi, rfl, rfl⟩)) ?_)
    rintro u a o nx ⟨h, hv⟩
    refine ⟨h, ?_⟩
    simp only [Tryd.f23]
    simp (disch := omega) only [go_sem, ↓IntWalk.iteOmega, IntWalk.toNatUp, Nat.reduceEqDiff, Nat.reduceAdd, Nat.reduceMul, Nat.reduceSub, Nat.reduceLT, Nat.reduceLeDiff, Int.reduceToNat, Int.reduceLT, Int.reduceLE, Int.reduceEq, Int.reduceAdd, Int.reduceSub, Int.reduceMul, Int.toNat_natCast, reduceCtorEq, decide_true, decide_false, IntWalk.i64_in, IntWalk.u64_in, IntWalk.u8_in]
    exact hv
termination_by n => SizeOf.sizeOf n
decreasing_by
  exact this
end Go.Proofs.YtmcbfbpdfbcakaaDoor.A
/- Whether an expression is right, by the document. -/
namespace Go.Proofs.YtmcbfbpdfbcakaaDoor.A
open Go
set_option maxRecDepth 20000
noncomputable def b24 : Code := Tryd.f24.body.getD .skip
noncomputable def y0 : Code := pathC [0] b24
noncomputable def y1 : Code := pathC [1, 0] b24
noncomputable def y2 : Code := pathC [1, 1, 0] b24
noncomputable def y3 : Code := pathC [1, 1, 1, 0] b24
noncomputable def y4 : Code := pathC [1, 1, 1, 1, 0] b24
noncomputable def t24 : Code := pathC [1, 1, 1, 1, 1] b24
theorem b24_seq : b24 = .seq y0 (.seq y1 (.seq y2 (.seq y3 (.seq y4 t24)))) := by kernel_rfl
theorem lookRRight (X) : lookedAt (EX md0 X) (fun _ => none) 1 Tryd.f24 = true := by kernel_rfl
theorem decide_bool_iff {p q : Prop} [Decidable p] [Decidable q] : (AV.bool (decide p) = AV.bool (decide q)) = (p ↔ q) := by simp
def fin24 (r : Bool) : WPost := fun u a o nx => (u = .normal ∨ u = .ret) ∧ view o vDepth (a 2) = .bool r
theorem tail24 (k s lo hi : Int) (l : List Nd) (hlen : l.length ≤ 1000) (X : FuncId → List AV → Option AV) (hch : ∀ i, i < l.length → X 24 [nodeV (l.getD i default)] = some (.bool (rightN (l.getD i default)))) (b : Bool) {a : AAct} {o : Ob} {nx : Nat} (hnx : 1 ≤ nx)
    (a1 : a 1 = .ptr (0, 1) (0, 1) 0) (a3 : a 3 = .int .i64 l.length) (a4 : a 4 = .bool b) (ho : o (0, 1) = some (.row ⟨29, 1, (0, 1), false, true, [.int .i64 k, .int .i64 s, .int .i64 lo, .int .i64 hi, slN l]⟩)) :
    WP (EX md0 X) noR 1002 (fun _ => none) t24 a o nx (fin24 (b && l.all rightN)) := by
  simp only [t24, b24, pathC, Tryd.f24, Option.getD_some]
  simp (disch := omega) only [go_sem, ↓IntWalk.iteOmega, IntWalk.toNatUp, Nat.reduceEqDiff, Nat.reduceAdd, Nat.reduceMul, Nat.reduceSub, Nat.reduceLT, Nat.reduceLeDiff, Int.reduceToNat, Int.reduceLT, Int.reduceLE, Int.reduceEq, Int.reduceAdd, Int.reduceSub, Int.reduceMul, Int.toNat_natCast, reduceCtorEq, decide_true, decide_false, IntWalk.i64_in, IntWalk.u64_in, IntWalk.u8_in, a1, a3, a4, ho]
  refine WP_loop (fun m a o nx => ∃ i : Nat, i ≤ l.length ∧ m = l.length - i ∧ 1 ≤ nx ∧ a 1 = .ptr (0, 1) (0, 1) 0 ∧ a 3 = .int .i64 l.length ∧ a 5 = .int .i64 i ∧ a 4 = .bool (b && (l.take i).all rightN) ∧ o (0, 1) = some (.row ⟨29, 1, (0, 1), false, true, [.int .i64 k, .int .i64 s, .int .i64 lo, .int .i64 hi, slN l]⟩)) l.length (by omega) ⟨0, by omega, by omega, by omega, by simp (disch := omega) only [go_sem, ↓IntWalk.iteOmega, IntWalk.toNatUp, Nat.reduceEqDiff, Nat.reduceAdd, Nat.reduceMul, Nat.reduceSub, Nat.reduceLT, Nat.reduceLeDiff, Int.reduceToNat, Int.reduceLT, Int.reduceLE, Int.reduceEq, Int.reduceAdd, Int.reduceSub, Int.reduceMul, Int.toNat_natCast, reduceCtorEq, decide_true, decide_false, IntWalk.i64_in, IntWalk.u64_in, IntWalk.u8_in, a1], by simp (disch := omega) only [go_sem, ↓IntWalk.iteOmega, IntWalk.toNatUp, Nat.reduceEqDiff, Nat.reduceAdd, Nat.reduceMul, Nat.reduceSub, Nat.reduceLT, Nat.reduceLeDiff, Int.reduceToNat, Int.reduceLT, Int.reduceLE, Int.reduceEq, Int.reduceAdd, Int.reduceSub, Int.reduceMul, Int.toNat_natCast, reduceCtorEq, decide_true, decide_false, IntWalk.i64_in, IntWalk.u64_in, IntWalk.u8_in, a3], by simp (disch := omega) only [go_sem, ↓IntWalk.iteOmega, IntWalk.toNatUp, Nat.reduceEqDiff, Nat.reduceAdd, Nat.reduceMul, Nat.reduceSub, Nat.reduceLT, Nat.reduceLeDiff, Int.reduceToNat, Int.reduceLT, Int.reduceLE, Int.reduceEq, Int.reduceAdd, Int.reduceSub, Int.reduceMul, Int.toNat_natCast, reduceCtorEq, decide_true, decide_false, IntWalk.i64_in, IntWalk.u64_in, IntWalk.u8_in], by simp (disch := omega) only [go_sem, ↓IntWalk.iteOmega, IntWalk.toNatUp, Nat.reduceEqDiff, Nat.reduceAdd, Nat.reduceMul, Nat.reduceSub, Nat.reduceLT, Nat.reduceLeDiff, Int.reduceToNat, Int.reduceLT, Int.reduceLE, Int.reduceEq, Int.reduceAdd, Int.reduceSub, Int.reduceMul, Int.toNat_natCast, reduceCtorEq, decide_true, decide_false, IntWalk.i64_in, IntWalk.u64_in, IntWalk.u8_in, a4], by simp (disch := omega) only [go_sem, ↓IntWalk.iteOmega, IntWalk.toNatUp, Nat.reduceEqDiff, Nat.reduceAdd, Nat.reduceMul, Nat.reduceSub, Nat.reduceLT, Nat.reduceLeDiff, Int.reduceToNat, Int.reduceLT, Int.reduceLE, Int.reduceEq, Int.reduceAdd, Int.reduceSub, Int.reduceMul, Int.toNat_natCast, reduceCtorEq, decide_true, decide_false, IntWalk.i64_in, IntWalk.u64_in, IntWalk.u8_in, ho]⟩ ?_
  clear a1 a3 a4 ho hnx
  rintro m a o nx ⟨i, hi, rfl, hnx, a1, a3, a5, a4, ho⟩
  by_cases hlt : i < l.length
  · have hat := cNds_at hlt
    have hci := hch i hlt
    simp only [nodeV] at hci
    have htk := take_succ_getD hlt default
    generalize l.getD i default = x at *
    have hsplit : l.all rightN = ((l.take i).all rightN && (rightN x && (l.drop (i + 1)).all rightN)) := by
      conv => lhs; rw [← List.take_append_drop (i + 1) l]
      rw [htk, List.all_append, List.all_append]
      simp [Bool.and_assoc]
    cases hb : (b && (l.take i).all rightN) with
    | true =>
      rw [hb] at a4
      simp (disch := omega) only [go_sem, ↓IntWalk.iteOmega, IntWalk.toNatUp, Nat.reduceEqDiff, Nat.reduceAdd, Nat.reduceMul, Nat.reduceSub, Nat.reduceLT, Nat.reduceLeDiff, Int.reduceToNat, Int.reduceLT, Int.reduceLE, Int.reduceEq, Int.reduceAdd, Int.reduceSub, Int.reduceMul, Int.toNat_natCast, reduceCtorEq, decide_true, decide_false, IntWalk.i64_in, IntWalk.u64_in, IntWalk.u8_in, a1, a3, a5, a4, ho, hat, hci]
      exact ⟨_, by omega, i + 1, by omega, rfl, rfl, by rw [htk, List.all_append, ← Bool.and_assoc, hb]; simp⟩
    | false =>
      rw [hb] at a4
      simp (disch := omega) only [go_sem, ↓IntWalk.iteOmega, IntWalk.toNatUp, Nat.reduceEqDiff, Nat.reduceAdd, Nat.reduceMul, Nat.reduceSub, Nat.reduceLT, Nat.reduceLeDiff, Int.reduceToNat, Int.reduceLT, Int.reduceLE, Int.reduceEq, Int.reduceAdd, Int.reduceSub, Int.reduceMul, Int.toNat_natCast, reduceCtorEq, decide_true, decide_false, IntWalk.i64_in, IntWalk.u64_in, IntWalk.u8_in, a1, a3, a5, a4, ho, hat, hci]
      rw [hsplit, ← Bool.and_assoc, hb, Bool.false_and]
      refine ⟨.inr rfl, ?_⟩
      simp (disch := omega) only [go_sem, ↓IntWalk.iteOmega, IntWalk.toNatUp, Nat.reduceEqDiff, Nat.reduceAdd, Nat.reduceMul, Nat.reduceSub, Nat.reduceLT, Nat.reduceLeDiff, Int.reduceToNat, Int.reduceLT, Int.reduceLE, Int.reduceEq, Int.reduceAdd, Int.reduceSub, Int.reduceMul, Int.toNat_natCast, reduceCtorEq, decide_true, decide_false, IntWalk.i64_in, IntWalk.u64_in, IntWalk.u8_in]
  · have hie : i = l.length := by omega
    rw [hie, List.take_length] at a4
    simp (disch := omega) only [go_sem, ↓IntWalk.iteOmega, IntWalk.toNatUp, Nat.reduceEqDiff, Nat.reduceAdd, Nat.reduceMul, Nat.reduceSub, Nat.reduceLT, Nat.reduceLeDiff, Int.reduceToNat, Int.reduceLT, Int.reduceLE, Int.reduceEq, Int.reduceAdd, Int.reduceSub, Int.reduceMul, Int.toNat_natCast, reduceCtorEq, decide_true, decide_false, IntWalk.i64_in, IntWalk.u64_in, IntWalk.u8_in, a1, a3, a5, a4, ho]
    refine ⟨.inr rfl, ?_⟩
    simp (disch := omega) only [go_sem, ↓IntWalk.iteOmega, IntWalk.toNatUp, Nat.reduceEqDiff, Nat.reduceAdd, Nat.reduceMul, Nat.reduceSub, Nat.reduceLT, Nat.reduceLeDiff, Int.reduceToNat, Int.reduceLT, Int.reduceLE, Int.reduceEq, Int.reduceAdd, Int.reduceSub, Int.reduceMul, Int.toNat_natCast, reduceCtorEq, decide_true, decide_false, IntWalk.i64_in, IntWalk.u64_in, IntWalk.u8_in]
set_option maxHeartbeats 8000000 in
theorem rright_step (k s lo hi : Int) (l : List Nd) (hlen : l.length ≤ 1000) (X : FuncId → List AV → Option AV) (hch : ∀ i, i < l.length → X 24 [nodeV (l.getD i default)] = some (.bool (rightN (l.getD i default)))) :
    WP (EX md0 X) noR 1002 (fun _ => none) b24 (begin_ [nodeV (.mk k s lo hi l)]) (fun _ => none) 0 (fin24 (rightN (.mk k s lo hi l))) := by
  rw [b24_seq, rightN, rightNs_all]
  have htail := fun (b : Bool) (a : AAct) (o : Ob) (nx : Nat) => tail24 k s lo hi l hlen X hch b (a := a) (o := o) (nx := nx)
  simp only [y0, y1, y2, y3, y4, b24, pathC, Tryd.f24, Option.getD_some, nodeV, cNd_mk]
  rcases headN_cases k s lo hi with hok | hbad
  · have hh : headN k s lo hi l.length = countN k l.length := by
      have : ∀ p q r t u : Bool, q = true → r = true → t = true → u = true → (p && q && r && t && u) = p := by decide
      exact this _ _ _ _ _ (decide_eq_true (by omega)) (decide_eq_true (by omega)) (decide_eq_true (by omega)) (decide_eq_true (by omega))
    rw [hh]
    rcases hok with ⟨rfl, rfl, rfl, c4, c5⟩ | ⟨rfl, rfl, c3, c4, c5⟩ | ⟨c1, c2, rfl, rfl, rfl⟩
    · have hc : countN 1 l.length = decide ((l.length : Int) = 0) := by unfold countN; rw [if_pos (.inl rfl), Bool.eq_iff_iff]; simp
      rw [hc]
      by_cases h1 : (l.length : Int) = 0
      · rw [decide_eq_true h1]
        simp (disch := omega) only [go_sem, ↓IntWalk.iteOmega, IntWalk.toNatUp, Nat.reduceEqDiff, Nat.reduceAdd, Nat.reduceMul, Nat.reduceSub, Nat.reduceLT, Nat.reduceLeDiff, Int.reduceToNat, Int.reduceLT, Int.reduceLE, Int.reduceEq, Int.reduceAdd, Int.reduceSub, Int.reduceMul, Int.toNat_natCast, reduceCtorEq, decide_true, decide_false, IntWalk.i64_in, IntWalk.u64_in, IntWalk.u8_in]
        refine htail true _ _ _ ?_ ?_ ?_ ?_ ?_
        · omega
        · simp (disch := omega) only [go_sem, ↓IntWalk.iteOmega, IntWalk.toNatUp, Nat.reduceEqDiff, Nat.reduceAdd, Nat.reduceMul, Nat.reduceSub, Nat.reduceLT, Nat.reduceLeDiff, Int.reduceToNat, Int.reduceLT, Int.reduceLE, Int.reduceEq, Int.reduceAdd, Int.reduceSub, Int.reduceMul, Int.toNat_natCast, reduceCtorEq, decide_true, decide_false, IntWalk.i64_in, IntWalk.u64_in, IntWalk.u8_in]
        · simp (disch := omega) only [go_sem, ↓IntWalk.iteOmega, IntWalk.toNatUp, Nat.reduceEqDiff, Nat.reduceAdd, Nat.reduceMul, Nat.reduceSub, Nat.reduceLT, Nat.reduceLeDiff, Int.reduceToNat, Int.reduceLT, Int.reduceLE, Int.reduceEq, Int.reduceAdd, Int.reduceSub, Int.reduceMul, Int.toNat_natCast, reduceCtorEq, decide_true, decide_false, IntWalk.i64_in, IntWalk.u64_in, IntWalk.u8_in]
        · simp (disch := omega) only [go_sem, ↓IntWalk.iteOmega, IntWalk.toNatUp, Nat.reduceEqDiff, Nat.reduceAdd, Nat.reduceMul, Nat.reduceSub, Nat.reduceLT, Nat.reduceLeDiff, Int.reduceToNat, Int.reduceLT, Int.reduceLE, Int.reduceEq, Int.reduceAdd, Int.reduceSub, Int.reduceMul, Int.toNat_natCast, reduceCtorEq, decide_true, decide_false, IntWalk.i64_in, IntWalk.u64_in, IntWalk.u8_in] <;> (simp only [AV.bool.injEq, decide_eq_true_eq, decide_eq_false_iff_not]; omega)
        · simp (disch := omega) only [go_sem, ↓IntWalk.iteOmega, IntWalk.toNatUp, Nat.reduceEqDiff, Nat.reduceAdd, Nat.reduceMul, Nat.reduceSub, Nat.reduceLT, Nat.reduceLeDiff, Int.reduceToNat, Int.reduceLT, Int.reduceLE, Int.reduceEq, Int.reduceAdd, Int.reduceSub, Int.reduceMul, Int.toNat_natCast, reduceCtorEq, decide_true, decide_false, IntWalk.i64_in, IntWalk.u64_in, IntWalk.u8_in]
      · rw [decide_eq_false h1]
        simp (disch := omega) only [go_sem, ↓IntWalk.iteOmega, IntWalk.toNatUp, Nat.reduceEqDiff, Nat.reduceAdd, Nat.reduceMul, Nat.reduceSub, Nat.reduceLT, Nat.reduceLeDiff, Int.reduceToNat, Int.reduceLT, Int.reduceLE, Int.reduceEq, Int.reduceAdd, Int.reduceSub, Int.reduceMul, Int.toNat_natCast, reduceCtorEq, decide_true, decide_false, IntWalk.i64_in, IntWalk.u64_in, IntWalk.u8_in]
        refine htail false _ _ _ ?_ ?_ ?_ ?_ ?_
        · omega
        · simp (disch := omega) only [go_sem, ↓IntWalk.iteOmega, IntWalk.toNatUp, Nat.reduceEqDiff, Nat.reduceAdd, Nat.reduceMul, Nat.reduceSub, Nat.reduceLT, Nat.reduceLeDiff, Int.reduceToNat, Int.reduceLT, Int.reduceLE, Int.reduceEq, Int.reduceAdd, Int.reduceSub, Int.reduceMul, Int.toNat_natCast, reduceCtorEq, decide_true, decide_false, IntWalk.i64_in, IntWalk.u64_in, IntWalk.u8_in]
        · simp (disch := omega) only [go_sem, ↓IntWalk.iteOmega, IntWalk.toNatUp, Nat.reduceEqDiff, Nat.reduceAdd, Nat.reduceMul, Nat.reduceSub, Nat.reduceLT, Nat.reduceLeDiff, Int.reduceToNat, Int.reduceLT, Int.reduceLE, Int.reduceEq, Int.reduceAdd, Int.reduceSub, Int.reduceMul, Int.toNat_natCast, reduceCtorEq, decide_true, decide_false, IntWalk.i64_in, IntWalk.u64_in, IntWalk.u8_in]
        · simp (disch := omega) only [go_sem, ↓IntWalk.iteOmega, IntWalk.toNatUp, Nat.reduceEqDiff, Nat.reduceAdd, Nat.reduceMul, Nat.reduceSub, Nat.reduceLT, Nat.reduceLeDiff, Int.reduceToNat, Int.reduceLT, Int.reduceLE, Int.reduceEq, Int.reduceAdd, Int.reduceSub, Int.reduceMul, Int.toNat_natCast, reduceCtorEq, decide_true, decide_false, IntWalk.i64_in, IntWalk.u64_in, IntWalk.u8_in] <;> (simp only [AV.bool.injEq, decide_eq_true_eq, decide_eq_false_iff_not]; omega)
        · simp (disch := omega) only [go_sem, ↓IntWalk.iteOmega, IntWalk.toNatUp, Nat.reduceEqDiff, Nat.reduceAdd, Nat.reduceMul, Nat.reduceSub, Nat.reduceLT, Nat.reduceLeDiff, Int.reduceToNat, Int.reduceLT, Int.reduceLE, Int.reduceEq, Int.reduceAdd, Int.reduceSub, Int.reduceMul, Int.toNat_natCast, reduceCtorEq, decide_true, decide_false, IntWalk.i64_in, IntWalk.u64_in, IntWalk.u8_in]
    · have hc : countN 9 l.length = decide ((l.length : Int) = 1) := by unfold countN; rw [if_neg (by decide), if_neg (by decide), if_pos (by decide), Bool.eq_iff_iff]; simp; omega
      rw [hc]
      by_cases h1 : (l.length : Int) = 1
      · rw [decide_eq_true h1]
        simp (disch := omega) only [go_sem, ↓IntWalk.iteOmega, IntWalk.toNatUp, Nat.reduceEqDiff, Nat.reduceAdd, Nat.reduceMul, Nat.reduceSub, Nat.reduceLT, Nat.reduceLeDiff, Int.reduceToNat, Int.reduceLT, Int.reduceLE, Int.reduceEq, Int.reduceAdd, Int.reduceSub, Int.reduceMul, Int.toNat_natCast, reduceCtorEq, decide_true, decide_false, IntWalk.i64_in, IntWalk.u64_in, IntWalk.u8_in]
        refine htail true _ _ _ ?_ ?_ ?_ ?_ ?_
        · omega
        · simp (disch := omega) only [go_sem, ↓IntWalk.iteOmega, IntWalk.toNatUp, Nat.reduceEqDiff, Nat.reduceAdd, Nat.reduceMul, Nat.reduceSub, Nat.reduceLT, Nat.reduceLeDiff, Int.reduceToNat, Int.reduceLT, Int.reduceLE, Int.reduceEq, Int.reduceAdd, Int.reduceSub, Int.reduceMul, Int.toNat_natCast, reduceCtorEq, decide_true, decide_false, IntWalk.i64_in, IntWalk.u64_in, IntWalk.u8_in]
        · simp (disch := omega) only [go_sem, ↓IntWalk.iteOmega, IntWalk.toNatUp, Nat.reduceEqDiff, Nat.reduceAdd, Nat.reduceMul, Nat.reduceSub, Nat.reduceLT, Nat.reduceLeDiff, Int.reduceToNat, Int.reduceLT, Int.reduceLE, Int.reduceEq, Int.reduceAdd, Int.reduceSub, Int.reduceMul, Int.toNat_natCast, reduceCtorEq, decide_true, decide_false, IntWalk.i64_in, IntWalk.u64_in, IntWalk.u8_in]
        · simp (disch := omega) only [go_sem, ↓IntWalk.iteOmega, IntWalk.toNatUp, Nat.reduceEqDiff, Nat.reduceAdd, Nat.reduceMul, Nat.reduceSub, Nat.reduceLT, Nat.reduceLeDiff, Int.reduceToNat, Int.reduceLT, Int.reduceLE, Int.reduceEq, Int.reduceAdd, Int.reduceSub, Int.reduceMul, Int.toNat_natCast, reduceCtorEq, decide_true, decide_false, IntWalk.i64_in, IntWalk.u64_in, IntWalk.u8_in] <;> (simp only [AV.bool.injEq, decide_eq_true_eq, decide_eq_false_iff_not]; omega)
        · simp (disch := omega) only [go_sem, ↓IntWalk.iteOmega, IntWalk.toNatUp, Nat.reduceEqDiff, Nat.reduceAdd, Nat.reduceMul, Nat.reduceSub, Nat.reduceLT, Nat.reduceLeDiff, Int.reduceToNat, Int.reduceLT, Int.reduceLE, Int.reduceEq, Int.reduceAdd, Int.reduceSub, Int.reduceMul, Int.toNat_natCast, reduceCtorEq, decide_true, decide_false, IntWalk.i64_in, IntWalk.u64_in, IntWalk.u8_in]
      · rw [decide_eq_false h1]
        simp (disch := omega) only [go_sem, ↓IntWalk.iteOmega, IntWalk.toNatUp, Nat.reduceEqDiff, Nat.reduceAdd, Nat.reduceMul, Nat.reduceSub, Nat.reduceLT, Nat.reduceLeDiff, Int.reduceToNat, Int.reduceLT, Int.reduceLE, Int.reduceEq, Int.reduceAdd, Int.reduceSub, Int.reduceMul, Int.toNat_natCast, reduceCtorEq, decide_true, decide_false, IntWalk.i64_in, IntWalk.u64_in, IntWalk.u8_in]
        refine htail false _ _ _ ?_ ?_ ?_ ?_ ?_
        · omega
        · simp (disch := omega) only [go_sem, ↓IntWalk.iteOmega, IntWalk.toNatUp, Nat.reduceEqDiff, Nat.reduceAdd, Nat.reduceMul, Nat.reduceSub, Nat.reduceLT, Nat.reduceLeDiff, Int.reduceToNat, Int.reduceLT, Int.reduceLE, Int.reduceEq, Int.reduceAdd, Int.reduceSub, Int.reduceMul, Int.toNat_natCast, reduceCtorEq, decide_true, decide_false, IntWalk.i64_in, IntWalk.u64_in, IntWalk.u8_in]
        · simp (disch := omega) only [go_sem, ↓IntWalk.iteOmega, IntWalk.toNatUp, Nat.reduceEqDiff, Nat.reduceAdd, Nat.reduceMul, Nat.reduceSub, Nat.reduceLT, Nat.reduceLeDiff, Int.reduceToNat, Int.reduceLT, Int.reduceLE, Int.reduceEq, Int.reduceAdd, Int.reduceSub, Int.reduceMul, Int.toNat_natCast, reduceCtorEq, decide_true, decide_false, IntWalk.i64_in, IntWalk.u64_in, IntWalk.u8_in]
        · simp (disch := omega) only [go_sem, ↓IntWalk.iteOmega, IntWalk.toNatUp, Nat.reduceEqDiff, Nat.reduceAdd, Nat.reduceMul, Nat.reduceSub, Nat.reduceLT, Nat.reduceLeDiff, Int.reduceToNat, Int.reduceLT, Int.reduceLE, Int.reduceEq, Int.reduceAdd, Int.reduceSub, Int.reduceMul, Int.toNat_natCast, reduceCtorEq, decide_true, decide_false, IntWalk.i64_in, IntWalk.u64_in, IntWalk.u8_in] <;> (simp only [AV.bool.injEq, decide_eq_true_eq, decide_eq_false_iff_not]; omega)
        · simp (disch := omega) only [go_sem, ↓IntWalk.iteOmega, IntWalk.toNatUp, Nat.reduceEqDiff, Nat.reduceAdd, Nat.reduceMul, Nat.reduceSub, Nat.reduceLT, Nat.reduceLeDiff, Int.reduceToNat, Int.reduceLT, Int.reduceLE, Int.reduceEq, Int.reduceAdd, Int.reduceSub, Int.reduceMul, Int.toNat_natCast, reduceCtorEq, decide_true, decide_false, IntWalk.i64_in, IntWalk.u64_in, IntWalk.u8_in]
    · by_cases d2 : k = 2
      · subst d2
        have hc : countN 2 l.length = decide ((l.length : Int) = 0) := by unfold countN; rw [if_pos (by decide), Bool.eq_iff_iff]; simp
        rw [hc]
        by_cases h1 : (l.length : Int) = 0
        · rw [decide_eq_true h1]
          simp (disch := omega) only [go_sem, ↓IntWalk.iteOmega, IntWalk.toNatUp, Nat.reduceEqDiff, Nat.reduceAdd, Nat.reduceMul, Nat.reduceSub, Nat.reduceLT, Nat.reduceLeDiff, Int.reduceToNat, Int.reduceLT, Int.reduceLE, Int.reduceEq, Int.reduceAdd, Int.reduceSub, Int.reduceMul, Int.toNat_natCast, reduceCtorEq, decide_true, decide_false, IntWalk.i64_in, IntWalk.u64_in, IntWalk.u8_in]
          refine htail true _ _ _ ?_ ?_ ?_ ?_ ?_
          · omega
          · simp (disch := omega) only [go_sem, ↓IntWalk.iteOmega, IntWalk.toNatUp, Nat.reduceEqDiff, Nat.reduceAdd, Nat.reduceMul, Nat.reduceSub, Nat.reduceLT, Nat.reduceLeDiff, Int.reduceToNat, Int.reduceLT, Int.reduceLE, Int.reduceEq, Int.reduceAdd, Int.reduceSub, Int.reduceMul, Int.toNat_natCast, reduceCtorEq, decide_true, decide_false, IntWalk.i64_in, IntWalk.u64_in, IntWalk.u8_in]
          · simp (disch := omega) only [go_sem, ↓IntWalk.iteOmega, IntWalk.toNatUp, Nat.reduceEqDiff, Nat.reduceAdd, Nat.reduceMul, Nat.reduceSub, Nat.reduceLT, Nat.reduceLeDiff, Int.reduceToNat, Int.reduceLT, Int.reduceLE, Int.reduceEq, Int.reduceAdd, Int.reduceSub, Int.reduceMul, Int.toNat_natCast, reduceCtorEq, decide_true, decide_false, IntWalk.i64_in, IntWalk.u64_in, IntWalk.u8_in]
          · simp (disch := omega) only [go_sem, ↓IntWalk.iteOmega, IntWalk.toNatUp, Nat.reduceEqDiff, Nat.reduceAdd, Nat.reduceMul, Nat.reduceSub, Nat.reduceLT, Nat.reduceLeDiff, Int.reduceToNat, Int.reduceLT, Int.reduceLE, Int.reduceEq, Int.reduceAdd, Int.reduceSub, Int.reduceMul, Int.toNat_natCast, reduceCtorEq, decide_true, decide_false, IntWalk.i64_in, IntWalk.u64_in, IntWalk.u8_in] <;> (simp only [AV.bool.injEq, decide_eq_true_eq, decide_eq_false_iff_not]; omega)
          · simp (disch := omega) only [go_sem, ↓IntWalk.iteOmega, IntWalk.toNatUp, Nat.reduceEqDiff, Nat.reduceAdd, Nat.reduceMul, Nat.reduceSub, Nat.reduceLT, Nat.reduceLeDiff, Int.reduceToNat, Int.reduceLT, Int.reduceLE, Int.reduceEq, Int.reduceAdd, Int.reduceSub, Int.reduceMul, Int.toNat_natCast, reduceCtorEq, decide_true, decide_false, IntWalk.i64_in, IntWalk.u64_in, IntWalk.u8_in]
        · rw [decide_eq_false h1]
          simp (disch := omega) only [go_sem, ↓IntWalk.iteOmega, IntWalk.toNatUp, Nat.reduceEqDiff, Nat.reduceAdd, Nat.reduceMul, Nat.reduceSub, Nat.reduceLT, Nat.reduceLeDiff, Int.reduceToNat, Int.reduceLT, Int.reduceLE, Int.reduceEq, Int.reduceAdd, Int.reduceSub, Int.reduceMul, Int.toNat_natCast, reduceCtorEq, decide_true, decide_false, IntWalk.i64_in, IntWalk.u64_in, IntWalk.u8_in]
          refine htail false _ _ _ ?_ ?_ ?_ ?_ ?_
          · omega
          · simp (disch := omega) only [go_sem, ↓IntWalk.iteOmega, IntWalk.toNatUp, Nat.reduceEqDiff, Nat.reduceAdd, Nat.reduceMul, Nat.reduceSub, Nat.reduceLT, Nat.reduceLeDiff, Int.reduceToNat, Int.reduceLT, Int.reduceLE, Int.reduceEq, Int.reduceAdd, Int.reduceSub, Int.reduceMul, Int.toNat_natCast, reduceCtorEq, decide_true, decide_false, IntWalk.i64_in, IntWalk.u64_in, IntWalk.u8_in]
          · simp (disch := omega) only [go_sem, ↓IntWalk.iteOmega, IntWalk.toNatUp, Nat.reduceEqDiff, Nat.reduceAdd, Nat.reduceMul, Nat.reduceSub, Nat.reduceLT, Nat.reduceLeDiff, Int.reduceToNat, Int.reduceLT, Int.reduceLE, Int.reduceEq, Int.reduceAdd, Int.reduceSub, Int.reduceMul, Int.toNat_natCast, reduceCtorEq, decide_true, decide_false, IntWalk.i64_in, IntWalk.u64_in, IntWalk.u8_in]
          · simp (disch := omega) only [go_sem, ↓IntWalk.iteOmega, IntWalk.toNatUp, Nat.reduceEqDiff, Nat.reduceAdd, Nat.reduceMul, Nat.reduceSub, Nat.reduceLT, Nat.reduceLeDiff, Int.reduceToNat, Int.reduceLT, Int.reduceLE, Int.reduceEq, Int.reduceAdd, Int.reduceSub, Int.reduceMul, Int.toNat_natCast, reduceCtorEq, decide_true, decide_false, IntWalk.i64_in, IntWalk.u64_in, IntWalk.u8_in] <;> (simp only [AV.bool.injEq, decide_eq_true_eq, decide_eq_false_iff_not]; omega)
          · simp (disch := omega) only [go_sem, ↓IntWalk.iteOmega, IntWalk.toNatUp, Nat.reduceEqDiff, Nat.reduceAdd, Nat.reduceMul, Nat.reduceSub, Nat.reduceLT, Nat.reduceLeDiff, Int.reduceToNat, Int.reduceLT, Int.reduceLE, Int.reduceEq, Int.reduceAdd, Int.reduceSub, Int.reduceMul, Int.toNat_natCast, reduceCtorEq, decide_true, decide_false, IntWalk.i64_in, IntWalk.u64_in, IntWalk.u8_in]
      by_cases d3 : k = 3
      · subst d3
        have hc : countN 3 l.length = decide ((l.length : Int) = 0) := by unfold countN; rw [if_pos (by decide), Bool.eq_iff_iff]; simp
        rw [hc]
        by_cases h1 : (l.length : Int) = 0
        · rw [decide_eq_true h1]
          simp (disch := omega) only [go_sem, ↓IntWalk.iteOmega, IntWalk.toNatUp, Nat.reduceEqDiff, Nat.reduceAdd, Nat.reduceMul, Nat.reduceSub, Nat.reduceLT, Nat.reduceLeDiff, Int.reduceToNat, Int.reduceLT, Int.reduceLE, Int.reduceEq, Int.reduceAdd, Int.reduceSub, Int.reduceMul, Int.toNat_natCast, reduceCtorEq, decide_true, decide_false, IntWalk.i64_in, IntWalk.u64_in, IntWalk.u8_in]
          refine htail true _ _ _ ?_ ?_ ?_ ?_ ?_
          · omega
          · simp (disch := omega) only [go_sem, ↓IntWalk.iteOmega, IntWalk.toNatUp, Nat.reduceEqDiff, Nat.reduceAdd, Nat.reduceMul, Nat.reduceSub, Nat.reduceLT, Nat.reduceLeDiff, Int.reduceToNat, Int.reduceLT, Int.reduceLE, Int.reduceEq, Int.reduceAdd, Int.reduceSub, Int.reduceMul, Int.toNat_natCast, reduceCtorEq, decide_true, decide_false, IntWalk.i64_in, IntWalk.u64_in, IntWalk.u8_in]
          · simp (disch := omega) only [go_sem, ↓IntWalk.iteOmega, IntWalk.toNatUp, Nat.reduceEqDiff, Nat.reduceAdd, Nat.reduceMul, Nat.reduceSub, Nat.reduceLT, Nat.reduceLeDiff, Int.reduceToNat, Int.reduceLT, Int.reduceLE, Int.reduceEq, Int.reduceAdd, Int.reduceSub, Int.reduceMul, Int.toNat_natCast, reduceCtorEq, decide_true, decide_false, IntWalk.i64_in, IntWalk.u64_in, IntWalk.u8_in]
          · simp (disch := omega) only [go_sem, ↓IntWalk.iteOmega, IntWalk.toNatUp, Nat.reduceEqDiff, Nat.reduceAdd, Nat.reduceMul, Nat.reduceSub, Nat.reduceLT, Nat.reduceLeDiff, Int.reduceToNat, Int.reduceLT, Int.reduceLE, Int.reduceEq, Int.reduceAdd, Int.reduceSub, Int.reduceMul, Int.toNat_natCast, reduceCtorEq, decide_true, decide_false, IntWalk.i64_in, IntWalk.u64_in, IntWalk.u8_in] <;> (simp only [AV.bool.injEq, decide_eq_true_eq, decide_eq_false_iff_not]; omega)
          · simp (disch := omega) only [go_sem, ↓IntWalk.iteOmega, IntWalk.toNatUp, Nat.reduceEqDiff, Nat.reduceAdd, Nat.reduceMul, Nat.reduceSub, Nat.reduceLT, Nat.reduceLeDiff, Int.reduceToNat, Int.reduceLT, Int.reduceLE, Int.reduceEq, Int.reduceAdd, Int.reduceSub, Int.reduceMul, Int.toNat_natCast, reduceCtorEq, decide_true, decide_false, IntWalk.i64_in, IntWalk.u64_in, IntWalk.u8_in]
        · rw [decide_eq_false h1]
          simp (disch := omega) only [go_sem, ↓IntWalk.iteOmega, IntWalk.toNatUp, Nat.reduceEqDiff, Nat.reduceAdd, Nat.reduceMul, Nat.reduceSub, Nat.reduceLT, Nat.reduceLeDiff, Int.reduceToNat, Int.reduceLT, Int.reduceLE, Int.reduceEq, Int.reduceAdd, Int.reduceSub, Int.reduceMul, Int.toNat_natCast, reduceCtorEq, decide_true, decide_false, IntWalk.i64_in, IntWalk.u64_in, IntWalk.u8_in]
          refine htail false _ _ _ ?_ ?_ ?_ ?_ ?_
          · omega
          · simp (disch := omega) only [go_sem, ↓IntWalk.iteOmega, IntWalk.toNatUp, Nat.reduceEqDiff, Nat.reduceAdd, Nat.reduceMul, Nat.reduceSub, Nat.reduceLT, Nat.reduceLeDiff, Int.reduceToNat, Int.reduceLT, Int.reduceLE, Int.reduceEq, Int.reduceAdd, Int.reduceSub, Int.reduceMul, Int.toNat_natCast, reduceCtorEq, decide_true, decide_false, IntWalk.i64_in, IntWalk.u64_in, IntWalk.u8_in]
          · simp (disch := omega) only [go_sem, ↓IntWalk.iteOmega, IntWalk.toNatUp, Nat.reduceEqDiff, Nat.reduceAdd, Nat.reduceMul, Nat.reduceSub, Nat.reduceLT, Nat.reduceLeDiff, Int.reduceToNat, Int.reduceLT, Int.reduceLE, Int.reduceEq, Int.reduceAdd, Int.reduceSub, Int.reduceMul, Int.toNat_natCast, reduceCtorEq, decide_true, decide_false, IntWalk.i64_in, IntWalk.u64_in, IntWalk.u8_in]
          · simp (disch := omega) only [go_sem, ↓IntWalk.iteOmega, IntWalk.toNatUp, Nat.reduceEqDiff, Nat.reduceAdd, Nat.reduceMul, Nat.reduceSub, Nat.reduceLT, Nat.reduceLeDiff, Int.reduceToNat, Int.reduceLT, Int.reduceLE, Int.reduceEq, Int.reduceAdd, Int.reduceSub, Int.reduceMul, Int.toNat_natCast, reduceCtorEq, decide_true, decide_false, IntWalk.i64_in, IntWalk.u64_in, IntWalk.u8_in] <;> (simp only [AV.bool.injEq, decide_eq_true_eq, decide_eq_false_iff_not]; omega)
          · simp (disch := omega) only [go_sem, ↓IntWalk.iteOmega, IntWalk.toNatUp, Nat.reduceEqDiff, Nat.reduceAdd, Nat.reduceMul, Nat.reduceSub, Nat.reduceLT, Nat.reduceLeDiff, Int.reduceToNat, Int.reduceLT, Int.reduceLE, Int.reduceEq, Int.reduceAdd, Int.reduceSub, Int.reduceMul, Int.toNat_natCast, reduceCtorEq, decide_true, decide_false, IntWalk.i64_in, IntWalk.u64_in, IntWalk.u8_in]
      by_cases d4 : k = 4
      · subst d4
        have hc : countN 4 l.length = decide ((2 : Int) ≤ l.length) := by unfold countN; rw [if_neg (by decide), if_pos (by decide), Bool.eq_iff_iff]; simp; omega
        rw [hc]
        by_cases h1 : (2 : Int) ≤ l.length
        · rw [decide_eq_true h1]
          simp (disch := omega) only [go_sem, ↓IntWalk.iteOmega, IntWalk.toNatUp, Nat.reduceEqDiff, Nat.reduceAdd, Nat.reduceMul, Nat.reduceSub, Nat.reduceLT, Nat.reduceLeDiff, Int.reduceToNat, Int.reduceLT, Int.reduceLE, Int.reduceEq, Int.reduceAdd, Int.reduceSub, Int.reduceMul, Int.toNat_natCast, reduceCtorEq, decide_true, decide_false, IntWalk.i64_in, IntWalk.u64_in, IntWalk.u8_in]
          refine htail true _ _ _ ?_ ?_ ?_ ?_ ?_
          · omega
          · simp (disch := omega) only [go_sem, ↓IntWalk.iteOmega, IntWalk.toNatUp, Nat.reduceEqDiff, Nat.reduceAdd, Nat.reduceMul, Nat.reduceSub, Nat.reduceLT, Nat.reduceLeDiff, Int.reduceToNat, Int.reduceLT, Int.reduceLE, Int.reduceEq, Int.reduceAdd, Int.reduceSub, Int.reduceMul, Int.toNat_natCast, reduceCtorEq, decide_true, decide_false, IntWalk.i64_in, IntWalk.u64_in, IntWalk.u8_in]
          · simp (disch := omega) only [go_sem, ↓IntWalk.iteOmega, IntWalk.toNatUp, Nat.reduceEqDiff, Nat.reduceAdd, Nat.reduceMul, Nat.reduceSub, Nat.reduceLT, Nat.reduceLeDiff, Int.reduceToNat, Int.reduceLT, Int.reduceLE, Int.reduceEq, Int.reduceAdd, Int.reduceSub, Int.reduceMul, Int.toNat_natCast, reduceCtorEq, decide_true, decide_false, IntWalk.i64_in, IntWalk.u64_in, IntWalk.u8_in]
          · simp (disch := omega) only [go_sem, ↓IntWalk.iteOmega, IntWalk.toNatUp, Nat.reduceEqDiff, Nat.reduceAdd, Nat.reduceMul, Nat.reduceSub, Nat.reduceLT, Nat.reduceLeDiff, Int.reduceToNat, Int.reduceLT, Int.reduceLE, Int.reduceEq, Int.reduceAdd, Int.reduceSub, Int.reduceMul, Int.toNat_natCast, reduceCtorEq, decide_true, decide_false, IntWalk.i64_in, IntWalk.u64_in, IntWalk.u8_in] <;> (simp only [AV.bool.injEq, decide_eq_true_eq, decide_eq_false_iff_not]; omega)
          · simp (disch := omega) only [go_sem, ↓IntWalk.iteOmega, IntWalk.toNatUp, Nat.reduceEqDiff, Nat.reduceAdd, Nat.reduceMul, Nat.reduceSub, Nat.reduceLT, Nat.reduceLeDiff, Int.reduceToNat, Int.reduceLT, Int.reduceLE, Int.reduceEq, Int.reduceAdd, Int.reduceSub, Int.reduceMul, Int.toNat_natCast, reduceCtorEq, decide_true, decide_false, IntWalk.i64_in, IntWalk.u64_in, IntWalk.u8_in]
        · rw [decide_eq_false h1]
          simp (disch := omega) only [go_sem, ↓IntWalk.iteOmega, IntWalk.toNatUp, Nat.reduceEqDiff, Nat.reduceAdd, Nat.reduceMul, Nat.reduceSub, Nat.reduceLT, Nat.reduceLeDiff, Int.reduceToNat, Int.reduceLT, Int.reduceLE, Int.reduceEq, Int.reduceAdd, Int.reduceSub, Int.reduceMul, Int.toNat_natCast, reduceCtorEq, decide_true, decide_false, IntWalk.i64_in, IntWalk.u64_in, IntWalk.u8_in]
          refine htail false _ _ _ ?_ ?_ ?_ ?_ ?_
          · omega
          · simp (disch := omega) only [go_sem, ↓IntWalk.iteOmega, IntWalk.toNatUp, Nat.reduceEqDiff, Nat.reduceAdd, Nat.reduceMul, Nat.reduceSub, Nat.reduceLT, Nat.reduceLeDiff, Int.reduceToNat, Int.reduceLT, Int.reduceLE, Int.reduceEq, Int.reduceAdd, Int.reduceSub, Int.reduceMul, Int.toNat_natCast, reduceCtorEq, decide_true, decide_false, IntWalk.i64_in, IntWalk.u64_in, IntWalk.u8_in]
          · simp (disch := omega) only [go_sem, ↓IntWalk.iteOmega, IntWalk.toNatUp, Nat.reduceEqDiff, Nat.reduceAdd, Nat.reduceMul, Nat.reduceSub, Nat.reduceLT, Nat.reduceLeDiff, Int.reduceToNat, Int.reduceLT, Int.reduceLE, Int.reduceEq, Int.reduceAdd, Int.reduceSub, Int.reduceMul, Int.toNat_natCast, reduceCtorEq, decide_true, decide_false, IntWalk.i64_in, IntWalk.u64_in, IntWalk.u8_in]
          · simp (disch := omega) only [go_sem, ↓IntWalk.iteOmega, IntWalk.toNatUp, Nat.reduceEqDiff, Nat.reduceAdd, Nat.reduceMul, Nat.reduceSub, Nat.reduceLT, Nat.reduceLeDiff, Int.reduceToNat, Int.reduceLT, Int.reduceLE, Int.reduceEq, Int.reduceAdd, Int.reduceSub, Int.reduceMul, Int.toNat_natCast, reduceCtorEq, decide_true, decide_false, IntWalk.i64_in, IntWalk.u64_in, IntWalk.u8_in] <;> (simp only [AV.bool.injEq, decide_eq_true_eq, decide_eq_false_iff_not]; omega)
          · simp (disch := omega) only [go_sem, ↓IntWalk.iteOmega, IntWalk.toNatUp, Nat.reduceEqDiff, Nat.reduceAdd, Nat.reduceMul, Nat.reduceSub, Nat.reduceLT, Nat.reduceLeDiff, Int.reduceToNat, Int.reduceLT, Int.reduceLE, Int.reduceEq, Int.reduceAdd, Int.reduceSub, Int.reduceMul, Int.toNat_natCast, reduceCtorEq, decide_true, decide_false, IntWalk.i64_in, IntWalk.u64_in, IntWalk.u8_in]
      by_cases d5 : k = 5
      · subst d5
        have hc : countN 5 l.length = decide ((2 : Int) ≤ l.length) := by unfold countN; rw [if_neg (by decide), if_pos (by decide), Bool.eq_iff_iff]; simp; omega
        rw [hc]
        by_cases h1 : (2 : Int) ≤ l.length
        · rw [decide_eq_true h1]
          simp (disch := omega) only [go_sem, ↓IntWalk.iteOmega, IntWalk.toNatUp, Nat.reduceEqDiff, Nat.reduceAdd, Nat.reduceMul, Nat.reduceSub, Nat.reduceLT, Nat.reduceLeDiff, Int.reduceToNat, Int.reduceLT, Int.reduceLE, Int.reduceEq, Int.reduceAdd, Int.reduceSub, Int.reduceMul, Int.toNat_natCast, reduceCtorEq, decide_true, decide_false, IntWalk.i64_in, IntWalk.u64_in, IntWalk.u8_in]
          refine htail true _ _ _ ?_ ?_ ?_ ?_ ?_
          · omega
          · simp (disch := omega) only [go_sem, ↓IntWalk.iteOmega, IntWalk.toNatUp, Nat.reduceEqDiff, Nat.reduceAdd, Nat.reduceMul, Nat.reduceSub, Nat.reduceLT, Nat.reduceLeDiff, Int.reduceToNat, Int.reduceLT, Int.reduceLE, Int.reduceEq, Int.reduceAdd, Int.reduceSub, Int.reduceMul, Int.toNat_natCast, reduceCtorEq, decide_true, decide_false, IntWalk.i64_in, IntWalk.u64_in, IntWalk.u8_in]
          · simp (disch := omega) only [go_sem, ↓IntWalk.iteOmega, IntWalk.toNatUp, Nat.reduceEqDiff, Nat.reduceAdd, Nat.reduceMul, Nat.reduceSub, Nat.reduceLT, Nat.reduceLeDiff, Int.reduceToNat, Int.reduceLT, Int.reduceLE, Int.reduceEq, Int.reduceAdd, Int.reduceSub, Int.reduceMul, Int.toNat_natCast, reduceCtorEq, decide_true, decide_false, IntWalk.i64_in, IntWalk.u64_in, IntWalk.u8_in]
          · simp (disch := omega) only [go_sem, ↓IntWalk.iteOmega, IntWalk.toNatUp, Nat.reduceEqDiff, Nat.reduceAdd, Nat.reduceMul, Nat.reduceSub, Nat.reduceLT, Nat.reduceLeDiff, Int.reduceToNat, Int.reduceLT, Int.reduceLE, Int.reduceEq, Int.reduceAdd, Int.reduceSub, Int.reduceMul, Int.toNat_natCast, reduceCtorEq, decide_true, decide_false, IntWalk.i64_in, IntWalk.u64_in, IntWalk.u8_in] <;> (simp only [AV.bool.injEq, decide_eq_true_eq, decide_eq_false_iff_not]; omega)
          · simp (disch := omega) only [go_sem, ↓IntWalk.iteOmega, IntWalk.toNatUp, Nat.reduceEqDiff, Nat.reduceAdd, Nat.reduceMul, Nat.reduceSub, Nat.reduceLT, Nat.reduceLeDiff, Int.reduceToNat, Int.reduceLT, Int.reduceLE, Int.reduceEq, Int.reduceAdd, Int.reduceSub, Int.reduceMul, Int.toNat_natCast, reduceCtorEq, decide_true, decide_false, IntWalk.i64_in, IntWalk.u64_in, IntWalk.u8_in]
        · rw [decide_eq_false h1]
          simp (disch := omega) only [go_sem, ↓IntWalk.iteOmega, IntWalk.toNatUp, Nat.reduceEqDiff, Nat.reduceAdd, Nat.reduceMul, Nat.reduceSub, Nat.reduceLT, Nat.reduceLeDiff, Int.reduceToNat, Int.reduceLT, Int.reduceLE, Int.reduceEq, Int.reduceAdd, Int.reduceSub, Int.reduceMul, Int.toNat_natCast, reduceCtorEq, decide_true, decide_false, IntWalk.i64_in, IntWalk.u64_in, IntWalk.u8_in]
          refine htail false _ _ _ ?_ ?_ ?_ ?_ ?_
          · omega
          · simp (disch := omega) only [go_sem, ↓IntWalk.iteOmega, IntWalk.toNatUp, Nat.reduceEqDiff, Nat.reduceAdd, Nat.reduceMul, Nat.reduceSub, Nat.reduceLT, Nat.reduceLeDiff, Int.reduceToNat, Int.reduceLT, Int.reduceLE, Int.reduceEq, Int.reduceAdd, Int.reduceSub, Int.reduceMul, Int.toNat_natCast, reduceCtorEq, decide_true, decide_false, IntWalk.i64_in, IntWalk.u64_in, IntWalk.u8_in]
          · simp (disch := omega) only [go_sem, ↓IntWalk.iteOmega, IntWalk.toNatUp, Nat.reduceEqDiff, Nat.reduceAdd, Nat.reduceMul, Nat.reduceSub, Nat.reduceLT, Nat.reduceLeDiff, Int.reduceToNat, Int.reduceLT, Int.reduceLE, Int.reduceEq, Int.reduceAdd, Int.reduceSub, Int.reduceMul, Int.toNat_natCast, reduceCtorEq, decide_true, decide_false, IntWalk.i64_in, IntWalk.u64_in, IntWalk.u8_in]
          · simp (disch := omega) only [go_sem, ↓IntWalk.iteOmega, IntWalk.toNatUp, Nat.reduceEqDiff, Nat.reduceAdd, Nat.reduceMul, Nat.reduceSub, Nat.reduceLT, Nat.reduceLeDiff, Int.reduceToNat, Int.reduceLT, Int.reduceLE, Int.reduceEq, Int.reduceAdd, Int.reduceSub, Int.reduceMul, Int.toNat_natCast, reduceCtorEq, decide_true, decide_false, IntWalk.i64_in, IntWalk.u64_in, IntWalk.u8_in] <;> (simp only [AV.bool.injEq, decide_eq_true_eq, decide_eq_false_iff_not]; omega)
          · simp (disch := omega) only [go_sem, ↓IntWalk.iteOmega, IntWalk.toNatUp, Nat.reduceEqDiff, Nat.reduceAdd, Nat.reduceMul, Nat.reduceSub, Nat.reduceLT, Nat.reduceLeDiff, Int.reduceToNat, Int.reduceLT, Int.reduceLE, Int.reduceEq, Int.reduceAdd, Int.reduceSub, Int.reduceMul, Int.toNat_natCast, reduceCtorEq, decide_true, decide_false, IntWalk.i64_in, IntWalk.u64_in, IntWalk.u8_in]
      by_cases d6 : k = 6
      · subst d6
        have hc : countN 6 l.length = decide ((l.length : Int) = 1) := by unfold countN; rw [if_neg (by decide), if_neg (by decide), if_pos (by decide), Bool.eq_iff_iff]; simp; omega
        rw [hc]
        by_cases h1 : (l.length : Int) = 1
        · rw [decide_eq_true h1]
          simp (disch := omega) only [go_sem, ↓IntWalk.iteOmega, IntWalk.toNatUp, Nat.reduceEqDiff, Nat.reduceAdd, Nat.reduceMul, Nat.reduceSub, Nat.reduceLT, Nat.reduceLeDiff, Int.reduceToNat, Int.reduceLT, Int.reduceLE, Int.reduceEq, Int.reduceAdd, Int.reduceSub, Int.reduceMul, Int.toNat_natCast, reduceCtorEq, decide_true, decide_false, IntWalk.i64_in, IntWalk.u64_in, IntWalk.u8_in]
          refine htail true _ _ _ ?_ ?_ ?_ ?_ ?_
          · omega
          · simp (disch := omega) only [go_sem, ↓IntWalk.iteOmega, IntWalk.toNatUp, Nat.reduceEqDiff, Nat.reduceAdd, Nat.reduceMul, Nat.reduceSub, Nat.reduceLT, Nat.reduceLeDiff, Int.reduceToNat, Int.reduceLT, Int.reduceLE, Int.reduceEq, Int.reduceAdd, Int.reduceSub, Int.reduceMul, Int.toNat_natCast, reduceCtorEq, decide_true, decide_false, IntWalk.i64_in, IntWalk.u64_in, IntWalk.u8_in]
          · simp (disch := omega) only [go_sem, ↓IntWalk.iteOmega, IntWalk.toNatUp, Nat.reduceEqDiff, Nat.reduceAdd, Nat.reduceMul, Nat.reduceSub, Nat.reduceLT, Nat.reduceLeDiff, Int.reduceToNat, Int.reduceLT, Int.reduceLE, Int.reduceEq, Int.reduceAdd, Int.reduceSub, Int.reduceMul, Int.toNat_natCast, reduceCtorEq, decide_true, decide_false, IntWalk.i64_in, IntWalk.u64_in, IntWalk.u8_in]
          · simp (disch := omega) only [go_sem, ↓IntWalk.iteOmega, IntWalk.toNatUp, Nat.reduceEqDiff, Nat.reduceAdd, Nat.reduceMul, Nat.reduceSub, Nat.reduceLT, Nat.reduceLeDiff, Int.reduceToNat, Int.reduceLT, Int.reduceLE, Int.reduceEq, Int.reduceAdd, Int.reduceSub, Int.reduceMul, Int.toNat_natCast, reduceCtorEq, decide_true, decide_false, IntWalk.i64_in, IntWalk.u64_in, IntWalk.u8_in] <;> (simp only [AV.bool.injEq, decide_eq_true_eq, decide_eq_false_iff_not]; omega)
          · simp (disch := omega) only [go_sem, ↓IntWalk.iteOmega, IntWalk.toNatUp, Nat.reduceEqDiff, Nat.reduceAdd, Nat.reduceMul, Nat.reduceSub, Nat.reduceLT, Nat.reduceLeDiff, Int.reduceToNat, Int.reduceLT, Int.reduceLE, Int.reduceEq, Int.reduceAdd, Int.reduceSub, Int.reduceMul, Int.toNat_natCast, reduceCtorEq, decide_true, decide_false, IntWalk.i64_in, IntWalk.u64_in, IntWalk.u8_in]
        · rw [decide_eq_false h1]
          simp (disch := omega) only [go_sem, ↓IntWalk.iteOmega, IntWalk.toNatUp, Nat.reduceEqDiff, Nat.reduceAdd, Nat.reduceMul, Nat.reduceSub, Nat.reduceLT, Nat.reduceLeDiff, Int.reduceToNat, Int.reduceLT, Int.reduceLE, Int.reduceEq, Int.reduceAdd, Int.reduceSub, Int.reduceMul, Int.toNat_natCast, reduceCtorEq, decide_true, decide_false, IntWalk.i64_in, IntWalk.u64_in, IntWalk.u8_in]
          refine htail false _ _ _ ?_ ?_ ?_ ?_ ?_
          · omega
          · simp (disch := omega) only [go_sem, ↓IntWalk.iteOmega, IntWalk.toNatUp, Nat.reduceEqDiff, Nat.reduceAdd, Nat.reduceMul, Nat.reduceSub, Nat.reduceLT, Nat.reduceLeDiff, Int.reduceToNat, Int.reduceLT, Int.reduceLE, Int.reduceEq, Int.reduceAdd, Int.reduceSub, Int.reduceMul, Int.toNat_natCast, reduceCtorEq, decide_true, decide_false, IntWalk.i64_in, IntWalk.u64_in, IntWalk.u8_in]
          · simp (disch := omega) only [go_sem, ↓IntWalk.iteOmega, IntWalk.toNatUp, Nat.reduceEqDiff, Nat.reduceAdd, Nat.reduceMul, Nat.reduceSub, Nat.reduceLT, Nat.reduceLeDiff, Int.reduceToNat, Int.reduceLT, Int.reduceLE, Int.reduceEq, Int.reduceAdd, Int.reduceSub, Int.reduceMul, Int.toNat_natCast, reduceCtorEq, decide_true, decide_false, IntWalk.i64_in, IntWalk.u64_in, IntWalk.u8_in]
          · simp (disch := omega) only [go_sem, ↓IntWalk.iteOmega, IntWalk.toNatUp, Nat.reduceEqDiff, Nat.reduceAdd, Nat.reduceMul, Nat.reduceSub, Nat.reduceLT, Nat.reduceLeDiff, Int.reduceToNat, Int.reduceLT, Int.reduceLE, Int.reduceEq, Int.reduceAdd, Int.reduceSub, Int.reduceMul, Int.toNat_natCast, reduceCtorEq, decide_true, decide_false, IntWalk.i64_in, IntWalk.u64_in, IntWalk.u8_in] <;> (simp only [AV.bool.injEq, decide_eq_true_eq, decide_eq_false_iff_not]; omega)
          · simp (disch := omega) only [go_sem, ↓IntWalk.iteOmega, IntWalk.toNatUp, Nat.reduceEqDiff, Nat.reduceAdd, Nat.reduceMul, Nat.reduceSub, Nat.reduceLT, Nat.reduceLeDiff, Int.reduceToNat, Int.reduceLT, Int.reduceLE, Int.reduceEq, Int.reduceAdd, Int.reduceSub, Int.reduceMul, Int.toNat_natCast, reduceCtorEq, decide_true, decide_false, IntWalk.i64_in, IntWalk.u64_in, IntWalk.u8_in]
      by_cases d7 : k = 7
      · subst d7
        have hc : countN 7 l.length = decide ((l.length : Int) = 1) := by unfold countN; rw [if_neg (by decide), if_neg (by decide), if_pos (by decide), Bool.eq_iff_iff]; simp; omega
        rw [hc]
        by_cases h1 : (l.length : Int) = 1
        · rw [decide_eq_true h1]
          simp (disch := omega) only [go_sem, ↓IntWalk.iteOmega, IntWalk.toNatUp, Nat.reduceEqDiff, Nat.reduceAdd, Nat.reduceMul, Nat.reduceSub, Nat.reduceLT, Nat.reduceLeDiff, Int.reduceToNat, Int.reduceLT, Int.reduceLE, Int.reduceEq, Int.reduceAdd, Int.reduceSub, Int.reduceMul, Int.toNat_natCast, reduceCtorEq, decide_true, decide_false, IntWalk.i64_in, IntWalk.u64_in, IntWalk.u8_in]
          refine htail true _ _ _ ?_ ?_ ?_ ?_ ?_
          · omega
          · simp (disch := omega) only [go_sem, ↓IntWalk.iteOmega, IntWalk.toNatUp, Nat.reduceEqDiff, Nat.reduceAdd, Nat.reduceMul, Nat.reduceSub, Nat.reduceLT, Nat.reduceLeDiff, Int.reduceToNat, Int.reduceLT, Int.reduceLE, Int.reduceEq, Int.reduceAdd, Int.reduceSub, Int.reduceMul, Int.toNat_natCast, reduceCtorEq, decide_true, decide_false, IntWalk.i64_in, IntWalk.u64_in, IntWalk.u8_in]
          · simp (disch := omega) only [go_sem, ↓IntWalk.iteOmega, IntWalk.toNatUp, Nat.reduceEqDiff, Nat.reduceAdd, Nat.reduceMul, Nat.reduceSub, Nat.reduceLT, Nat.reduceLeDiff, Int.reduceToNat, Int.reduceLT, Int.reduceLE, Int.reduceEq, Int.reduceAdd, Int.reduceSub, Int.reduceMul, Int.toNat_natCast, reduceCtorEq, decide_true, decide_false, IntWalk.i64_in, IntWalk.u64_in, IntWalk.u8_in]
          · simp (disch := omega) only [go_sem, ↓IntWalk.iteOmega, IntWalk.toNatUp, Nat.reduceEqDiff, Nat.reduceAdd, Nat.reduceMul, Nat.reduceSub, Nat.reduceLT, Nat.reduceLeDiff, Int.reduceToNat, Int.reduceLT, Int.reduceLE, Int.reduceEq, Int.reduceAdd, Int.reduceSub, Int.reduceMul, Int.toNat_natCast, reduceCtorEq, decide_true, decide_false, IntWalk.i64_in, IntWalk.u64_in, IntWalk.u8_in] <;> (simp only [AV.bool.injEq, decide_eq_true_eq, decide_eq_false_iff_not]; omega)
          · simp (disch := omega) only [go_sem, ↓IntWalk.iteOmega, IntWalk.toNatUp, Nat.reduceEqDiff, Nat.reduceAdd, Nat.reduceMul, Nat.reduceSub, Nat.reduceLT, Nat.reduceLeDiff, Int.reduceToNat, Int.reduceLT, Int.reduceLE, Int.reduceEq, Int.reduceAdd, Int.reduceSub, Int.reduceMul, Int.toNat_natCast, reduceCtorEq, decide_true, decide_false, IntWalk.i64_in, IntWalk.u64_in, IntWalk.u8_in]
        · rw [decide_eq_false h1]
          simp (disch := omega) only [go_sem, ↓IntWalk.iteOmega, IntWalk.toNatUp, Nat.reduceEqDiff, Nat.reduceAdd, Nat.reduceMul, Nat.reduceSub, Nat.reduceLT, Nat.reduceLeDiff, Int.reduceToNat, Int.reduceLT, Int.reduceLE, Int.reduceEq, Int.reduceAdd, Int.reduceSub, Int.reduceMul, Int.toNat_natCast, reduceCtorEq, decide_true, decide_false, IntWalk.i64_in, IntWalk.u64_in, IntWalk.u8_in]
          refine htail false _ _ _ ?_ ?_ ?_ ?_ ?_
          · omega
          · simp (disch := omega) only [go_sem, ↓IntWalk.iteOmega, IntWalk.toNatUp, Nat.reduceEqDiff, Nat.reduceAdd, Nat.reduceMul, Nat.reduceSub, Nat.reduceLT, Nat.reduceLeDiff, Int.reduceToNat, Int.reduceLT, Int.reduceLE, Int.reduceEq, Int.reduceAdd, Int.reduceSub, Int.reduceMul, Int.toNat_natCast, reduceCtorEq, decide_true, decide_false, IntWalk.i64_in, IntWalk.u64_in, IntWalk.u8_in]
          · simp (disch := omega) only [go_sem, ↓IntWalk.iteOmega, IntWalk.toNatUp, Nat.reduceEqDiff, Nat.reduceAdd, Nat.reduceMul, Nat.reduceSub, Nat.reduceLT, Nat.reduceLeDiff, Int.reduceToNat, Int.reduceLT, Int.reduceLE, Int.reduceEq, Int.reduceAdd, Int.reduceSub, Int.reduceMul, Int.toNat_natCast, reduceCtorEq, decide_true, decide_false, IntWalk.i64_in, IntWalk.u64_in, IntWalk.u8_in]
          · simp (disch := omega) only [go_sem, ↓IntWalk.iteOmega, IntWalk.toNatUp, Nat.reduceEqDiff, Nat.reduceAdd, Nat.reduceMul, Nat.reduceSub, Nat.reduceLT, Nat.reduceLeDiff, Int.reduceToNat, Int.reduceLT, Int.reduceLE, Int.reduceEq, Int.reduceAdd, Int.reduceSub, Int.reduceMul, Int.toNat_natCast, reduceCtorEq, decide_true, decide_false, IntWalk.i64_in, IntWalk.u64_in, IntWalk.u8_in] <;> (simp only [AV.bool.injEq, decide_eq_true_eq, decide_eq_false_iff_not]; omega)
          · simp (disch := omega) only [go_sem, ↓IntWalk.iteOmega, IntWalk.toNatUp, Nat.reduceEqDiff, Nat.reduceAdd, Nat.reduceMul, Nat.reduceSub, Nat.reduceLT, Nat.reduceLeDiff, Int.reduceToNat, Int.reduceLT, Int.reduceLE, Int.reduceEq, Int.reduceAdd, Int.reduceSub, Int.reduceMul, Int.toNat_natCast, reduceCtorEq, decide_true, decide_false, IntWalk.i64_in, IntWalk.u64_in, IntWalk.u8_in]
      by_cases d8 : k = 8
      · subst d8
        have hc : countN 8 l.length = decide ((l.length : Int) = 1) := by unfold countN; rw [if_neg (by decide), if_neg (by decide), if_pos (by decide), Bool.eq_iff_iff]; simp; omega
        rw [hc]
        by_cases h1 : (l.length : Int) = 1
        · rw [decide_eq_true h1]
          simp (disch := omega) only [go_sem, ↓IntWalk.iteOmega, IntWalk.toNatUp, Nat.reduceEqDiff, Nat.reduceAdd, Nat.reduceMul, Nat.reduceSub, Nat.reduceLT, Nat.reduceLeDiff, Int.reduceToNat, Int.reduceLT, Int.reduceLE, Int.reduceEq, Int.reduceAdd, Int.reduceSub, Int.reduceMul, Int.toNat_natCast, reduceCtorEq, decide_true, decide_false, IntWalk.i64_in, IntWalk.u64_in, IntWalk.u8_in]
          refine htail true _ _ _ ?_ ?_ ?_ ?_ ?_
          · omega
          · simp (disch := omega) only [go_sem, ↓IntWalk.iteOmega, IntWalk.toNatUp, Nat.reduceEqDiff, Nat.reduceAdd, Nat.reduceMul, Nat.reduceSub, Nat.reduceLT, Nat.reduceLeDiff, Int.reduceToNat, Int.reduceLT, Int.reduceLE, Int.reduceEq, Int.reduceAdd, Int.reduceSub, Int.reduceMul, Int.toNat_natCast, reduceCtorEq, decide_true, decide_false, IntWalk.i64_in, IntWalk.u64_in, IntWalk.u8_in]
          · simp (disch := omega) only [go_sem, ↓IntWalk.iteOmega, IntWalk.toNatUp, Nat.reduceEqDiff, Nat.reduceAdd, Nat.reduceMul, Nat.reduceSub, Nat.reduceLT, Nat.reduceLeDiff, Int.reduceToNat, Int.reduceLT, Int.reduceLE, Int.reduceEq, Int.reduceAdd, Int.reduceSub, Int.reduceMul, Int.toNat_natCast, reduceCtorEq, decide_true, decide_false, IntWalk.i64_in, IntWalk.u64_in, IntWalk.u8_in]
          · simp (disch := omega) only [go_sem, ↓IntWalk.iteOmega, IntWalk.toNatUp, Nat.reduceEqDiff, Nat.reduceAdd, Nat.reduceMul, Nat.reduceSub, Nat.reduceLT, Nat.reduceLeDiff, Int.reduceToNat, Int.reduceLT, Int.reduceLE, Int.reduceEq, Int.reduceAdd, Int.reduceSub, Int.reduceMul, Int.toNat_natCast, reduceCtorEq, decide_true, decide_false, IntWalk.i64_in, IntWalk.u64_in, IntWalk.u8_in] <;> (simp only [AV.bool.injEq, decide_eq_true_eq, decide_eq_false_iff_not]; omega)
          · simp (disch := omega) only [go_sem, ↓IntWalk.iteOmega, IntWalk.toNatUp, Nat.reduceEqDiff, Nat.reduceAdd, Nat.reduceMul, Nat.reduceSub, Nat.reduceLT, Nat.reduceLeDiff, Int.reduceToNat, Int.reduceLT, Int.reduceLE, Int.reduceEq, Int.reduceAdd, Int.reduceSub, Int.reduceMul, Int.toNat_natCast, reduceCtorEq, decide_true, decide_false, IntWalk.i64_in, IntWalk.u64_in, IntWalk.u8_in]
        · rw [decide_eq_false h1]
          simp (disch := omega) only [go_sem, ↓IntWalk.iteOmega, IntWalk.toNatUp, Nat.reduceEqDiff, Nat.reduceAdd, Nat.reduceMul, Nat.reduceSub, Nat.reduceLT, Nat.reduceLeDiff, Int.reduceToNat, Int.reduceLT, Int.reduceLE, Int.reduceEq, Int.reduceAdd, Int.reduceSub, Int.reduceMul, Int.toNat_natCast, reduceCtorEq, decide_true, decide_false, IntWalk.i64_in, IntWalk.u64_in, IntWalk.u8_in]
          refine htail false _ _ _ ?_ ?_ ?_ ?_ ?_
          · omega
          · simp (disch := omega) only [go_sem, ↓IntWalk.iteOmega, IntWalk.toNatUp, Nat.reduceEqDiff, Nat.reduceAdd, Nat.reduceMul, Nat.reduceSub, Nat.reduceLT, Nat.reduceLeDiff, Int.reduceToNat, Int.reduceLT, Int.reduceLE, Int.reduceEq, Int.reduceAdd, Int.reduceSub, Int.reduceMul, Int.toNat_natCast, reduceCtorEq, decide_true, decide_false, IntWalk.i64_in, IntWalk.u64_in, IntWalk.u8_in]
          · simp (disch := omega) only [go_sem, ↓IntWalk.iteOmega, IntWalk.toNatUp, Nat.reduceEqDiff, Nat.reduceAdd, Nat.reduceMul, Nat.reduceSub, Nat.reduceLT, Nat.reduceLeDiff, Int.reduceToNat, Int.reduceLT, Int.reduceLE, Int.reduceEq, Int.reduceAdd, Int.reduceSub, Int.reduceMul, Int.toNat_natCast, reduceCtorEq, decide_true, decide_false, IntWalk.i64_in, IntWalk.u64_in, IntWalk.u8_in]
          · simp (disch := omega) only [go_sem, ↓IntWalk.iteOmega, IntWalk.toNatUp, Nat.reduceEqDiff, Nat.reduceAdd, Nat.reduceMul, Nat.reduceSub, Nat.reduceLT, Nat.reduceLeDiff, Int.reduceToNat, Int.reduceLT, Int.reduceLE, Int.reduceEq, Int.reduceAdd, Int.reduceSub, Int.reduceMul, Int.toNat_natCast, reduceCtorEq, decide_true, decide_false, IntWalk.i64_in, IntWalk.u64_in, IntWalk.u8_in] <;> (simp only [AV.bool.injEq, decide_eq_true_eq, decide_eq_false_iff_not]; omega)
          · simp (disch := omega) only [go_sem, ↓IntWalk.iteOmega, IntWalk.toNatUp, Nat.reduceEqDiff, Nat.reduceAdd, Nat.reduceMul, Nat.reduceSub, Nat.reduceLT, Nat.reduceLeDiff, Int.reduceToNat, Int.reduceLT, Int.reduceLE, Int.reduceEq, Int.reduceAdd, Int.reduceSub, Int.reduceMul, Int.toNat_natCast, reduceCtorEq, decide_true, decide_false, IntWalk.i64_in, IntWalk.u64_in, IntWalk.u8_in]
      have hc : countN k l.length = false := by unfold countN; rw [if_neg (by omega), if_neg (by omega), if_neg (by omega)]
      rw [hc]
      simp (disch := omega) only [go_sem, ↓IntWalk.iteOmega, IntWalk.toNatUp, Nat.reduceEqDiff, Nat.reduceAdd, Nat.reduceMul, Nat.reduceSub, Nat.reduceLT, Nat.reduceLeDiff, Int.reduceToNat, Int.reduceLT, Int.reduceLE, Int.reduceEq, Int.reduceAdd, Int.reduceSub, Int.reduceMul, Int.toNat_natCast, reduceCtorEq, decide_true, decide_false, IntWalk.i64_in, IntWalk.u64_in, IntWalk.u8_in]
      refine htail false _ _ _ ?_ ?_ ?_ ?_ ?_
      · omega
      · simp (disch := omega) only [go_sem, ↓IntWalk.iteOmega, IntWalk.toNatUp, Nat.reduceEqDiff, Nat.reduceAdd, Nat.reduceMul, Nat.reduceSub, Nat.reduceLT, Nat.reduceLeDiff, Int.reduceToNat, Int.reduceLT, Int.reduceLE, Int.reduceEq, Int.reduceAdd, Int.reduceSub, Int.reduceMul, Int.toNat_natCast, reduceCtorEq, decide_true, decide_false, IntWalk.i64_in, IntWalk.u64_in, IntWalk.u8_in]
      · simp (disch := omega) only [go_sem, ↓IntWalk.iteOmega, IntWalk.toNatUp, Nat.reduceEqDiff, Nat.reduceAdd, Nat.reduceMul, Nat.reduceSub, Nat.reduceLT, Nat.reduceLeDiff, Int.reduceToNat, Int.reduceLT, Int.reduceLE, Int.reduceEq, Int.reduceAdd, Int.reduceSub, Int.reduceMul, Int.toNat_natCast, reduceCtorEq, decide_true, decide_false, IntWalk.i64_in, IntWalk.u64_in, IntWalk.u8_in]
      · simp (disch := omega) only [go_sem, ↓IntWalk.iteOmega, IntWalk.toNatUp, Nat.reduceEqDiff, Nat.reduceAdd, Nat.reduceMul, Nat.reduceSub, Nat.reduceLT, Nat.reduceLeDiff, Int.reduceToNat, Int.reduceLT, Int.reduceLE, Int.reduceEq, Int.reduceAdd, Int.reduceSub, Int.reduceMul, Int.toNat_natCast, reduceCtorEq, decide_true, decide_false, IntWalk.i64_in, IntWalk.u64_in, IntWalk.u8_in] <;> (simp only [AV.bool.injEq, decide_eq_true_eq, decide_eq_false_iff_not]; omega)
      · simp (disch := omega) only [go_sem, ↓IntWalk.iteOmega, IntWalk.toNatUp, Nat.reduceEqDiff, Nat.reduceAdd, Nat.reduceMul, Nat.reduceSub, Nat.reduceLT, Nat.reduceLeDiff, Int.reduceToNat, Int.reduceLT, Int.reduceLE, Int.reduceEq, Int.reduceAdd, Int.reduceSub, Int.reduceMul, Int.toNat_natCast, reduceCtorEq, decide_true, decide_false, IntWalk.i64_in, IntWalk.u64_in, IntWalk.u8_in]
  · have hh : headN k s lo hi l.length = false := Bool.eq_false_iff.2 (fun h => by
      simp only [headN, Bool.and_eq_true, decide_eq_true_eq] at h
      omega)
    rw [hh]
    rcases hbad with ⟨c1, c2⟩ | ⟨rfl, c2⟩ | ⟨rfl, rfl, c3⟩ | ⟨c1, c2, rfl, c4⟩ | ⟨c1, c2, rfl, rfl, c5⟩ | ⟨rfl, rfl, rfl, c4⟩ | ⟨rfl, rfl, rfl, c4, c5⟩ | ⟨rfl, rfl, c3⟩ | ⟨rfl, rfl, c3, c4⟩ | ⟨rfl, rfl, c3, c4, c5⟩
    · simp (disch := omega) only [go_sem, ↓IntWalk.iteOmega, IntWalk.toNatUp, Nat.reduceEqDiff, Nat.reduceAdd, Nat.reduceMul, Nat.reduceSub, Nat.reduceLT, Nat.reduceLeDiff, Int.reduceToNat, Int.reduceLT, Int.reduceLE, Int.reduceEq, Int.reduceAdd, Int.reduceSub, Int.reduceMul, Int.toNat_natCast, reduceCtorEq, decide_true, decide_false, IntWalk.i64_in, IntWalk.u64_in, IntWalk.u8_in]
      refine ⟨.inr rfl, ?_⟩
      simp (disch := omega) only [go_sem, ↓IntWalk.iteOmega, IntWalk.toNatUp, Nat.reduceEqDiff, Nat.reduceAdd, Nat.reduceMul, Nat.reduceSub, Nat.reduceLT, Nat.reduceLeDiff, Int.reduceToNat, Int.reduceLT, Int.reduceLE, Int.reduceEq, Int.reduceAdd, Int.reduceSub, Int.reduceMul, Int.toNat_natCast, reduceCtorEq, decide_true, decide_false, IntWalk.i64_in, IntWalk.u64_in, IntWalk.u8_in]
    · simp (disch := omega) only [go_sem, ↓IntWalk.iteOmega, IntWalk.toNatUp, Nat.reduceEqDiff, Nat.reduceAdd, Nat.reduceMul, Nat.reduceSub, Nat.reduceLT, Nat.reduceLeDiff, Int.reduceToNat, Int.reduceLT, Int.reduceLE, Int.reduceEq, Int.reduceAdd, Int.reduceSub, Int.reduceMul, Int.toNat_natCast, reduceCtorEq, decide_true, decide_false, IntWalk.i64_in, IntWalk.u64_in, IntWalk.u8_in]
      refine ⟨.inr rfl, ?_⟩
      simp (disch := omega) only [go_sem, ↓IntWalk.iteOmega, IntWalk.toNatUp, Nat.reduceEqDiff, Nat.reduceAdd, Nat.reduceMul, Nat.reduceSub, Nat.reduceLT, Nat.reduceLeDiff, Int.reduceToNat, Int.reduceLT, Int.reduceLE, Int.reduceEq, Int.reduceAdd, Int.reduceSub, Int.reduceMul, Int.toNat_natCast, reduceCtorEq, decide_true, decide_false, IntWalk.i64_in, IntWalk.u64_in, IntWalk.u8_in]
    · simp (disch := omega) only [go_sem, ↓IntWalk.iteOmega, IntWalk.toNatUp, Nat.reduceEqDiff, Nat.reduceAdd, Nat.reduceMul, Nat.reduceSub, Nat.reduceLT, Nat.reduceLeDiff, Int.reduceToNat, Int.reduceLT, Int.reduceLE, Int.reduceEq, Int.reduceAdd, Int.reduceSub, Int.reduceMul, Int.toNat_natCast, reduceCtorEq, decide_true, decide_false, IntWalk.i64_in, IntWalk.u64_in, IntWalk.u8_in]
      refine ⟨.inr rfl, ?_⟩
      simp (disch := omega) only [go_sem, ↓IntWalk.iteOmega, IntWalk.toNatUp, Nat.reduceEqDiff, Nat.reduceAdd, Nat.reduceMul, Nat.reduceSub, Nat.reduceLT, Nat.reduceLeDiff, Int.reduceToNat, Int.reduceLT, Int.reduceLE, Int.reduceEq, Int.reduceAdd, Int.reduceSub, Int.reduceMul, Int.toNat_natCast, reduceCtorEq, decide_true, decide_false, IntWalk.i64_in, IntWalk.u64_in, IntWalk.u8_in]
    · simp (disch := omega) only [go_sem, ↓IntWalk.iteOmega, IntWalk.toNatUp, Nat.reduceEqDiff, Nat.reduceAdd, Nat.reduceMul, Nat.reduceSub, Nat.reduceLT, Nat.reduceLeDiff, Int.reduceToNat, Int.reduceLT, Int.reduceLE, Int.reduceEq, Int.reduceAdd, Int.reduceSub, Int.reduceMul, Int.toNat_natCast, reduceCtorEq, decide_true, decide_false, IntWalk.i64_in, IntWalk.u64_in, IntWalk.u8_in]
      refine ⟨.inr rfl, ?_⟩
      simp (disch := omega) only [go_sem, ↓IntWalk.iteOmega, IntWalk.toNatUp, Nat.reduceEqDiff, Nat.reduceAdd, Nat.reduceMul, Nat.reduceSub, Nat.reduceLT, Nat.reduceLeDiff, Int.reduceToNat, Int.reduceLT, Int.reduceLE, Int.reduceEq, Int.reduceAdd, Int.reduceSub, Int.reduceMul, Int.toNat_natCast, reduceCtorEq, decide_true, decide_false, IntWalk.i64_in, IntWalk.u64_in, IntWalk.u8_in]
    · simp (disch := omega) only [go_sem, ↓IntWalk.iteOmega, IntWalk.toNatUp, Nat.reduceEqDiff, Nat.reduceAdd, Nat.reduceMul, Nat.reduceSub, Nat.reduceLT, Nat.reduceLeDiff, Int.reduceToNat, Int.reduceLT, Int.reduceLE, Int.reduceEq, Int.reduceAdd, Int.reduceSub, Int.reduceMul, Int.toNat_natCast, reduceCtorEq, decide_true, decide_false, IntWalk.i64_in, IntWalk.u64_in, IntWalk.u8_in]
      refine ⟨.inr rfl, ?_⟩
      simp (disch := omega) only [go_sem, ↓IntWalk.iteOmega, IntWalk.toNatUp, Nat.reduceEqDiff, Nat.reduceAdd, Nat.reduceMul, Nat.reduceSub, Nat.reduceLT, Nat.reduceLeDiff, Int.reduceToNat, Int.reduceLT, Int.reduceLE, Int.reduceEq, Int.reduceAdd, Int.reduceSub, Int.reduceMul, Int.toNat_natCast, reduceCtorEq, decide_true, decide_false, IntWalk.i64_in, IntWalk.u64_in, IntWalk.u8_in]
    · simp (disch := omega) only [go_sem, ↓IntWalk.iteOmega, IntWalk.toNatUp, Nat.reduceEqDiff, Nat.reduceAdd, Nat.reduceMul, Nat.reduceSub, Nat.reduceLT, Nat.reduceLeDiff, Int.reduceToNat, Int.reduceLT, Int.reduceLE, Int.reduceEq, Int.reduceAdd, Int.reduceSub, Int.reduceMul, Int.toNat_natCast, reduceCtorEq, decide_true, decide_false, IntWalk.i64_in, IntWalk.u64_in, IntWalk.u8_in]
      refine htail false _ _ _ ?_ ?_ ?_ ?_ ?_
      · omega
      · simp (disch := omega) only [go_sem, ↓IntWalk.iteOmega, IntWalk.toNatUp, Nat.reduceEqDiff, Nat.reduceAdd, Nat.reduceMul, Nat.reduceSub, Nat.reduceLT, Nat.reduceLeDiff, Int.reduceToNat, Int.reduceLT, Int.reduceLE, Int.reduceEq, Int.reduceAdd, Int.reduceSub, Int.reduceMul, Int.toNat_natCast, reduceCtorEq, decide_true, decide_false, IntWalk.i64_in, IntWalk.u64_in, IntWalk.u8_in]
      · simp (disch := omega) only [go_sem, ↓IntWalk.iteOmega, IntWalk.toNatUp, Nat.reduceEqDiff, Nat.reduceAdd, Nat.reduceMul, Nat.reduceSub, Nat.reduceLT, Nat.reduceLeDiff, Int.reduceToNat, Int.reduceLT, Int.reduceLE, Int.reduceEq, Int.reduceAdd, Int.reduceSub, Int.reduceMul, Int.toNat_natCast, reduceCtorEq, decide_true, decide_false, IntWalk.i64_in, IntWalk.u64_in, IntWalk.u8_in]
      · simp (disch := omega) only [go_sem, ↓IntWalk.iteOmega, IntWalk.toNatUp, Nat.reduceEqDiff, Nat.reduceAdd, Nat.reduceMul, Nat.reduceSub, Nat.reduceLT, Nat.reduceLeDiff, Int.reduceToNat, Int.reduceLT, Int.reduceLE, Int.reduceEq, Int.reduceAdd, Int.reduceSub, Int.reduceMul, Int.toNat_natCast, reduceCtorEq, decide_true, decide_false, IntWalk.i64_in, IntWalk.u64_in, IntWalk.u8_in] <;> (simp only [AV.bool.injEq, decide_eq_true_eq, decide_eq_false_iff_not]; omega)
      · simp (disch := omega) only [go_sem, ↓IntWalk.iteOmega, IntWalk.toNatUp, Nat.reduceEqDiff, Nat.reduceAdd, Nat.reduceMul, Nat.reduceSub, Nat.reduceLT, Nat.reduceLeDiff, Int.reduceToNat, Int.reduceLT, Int.reduceLE, Int.reduceEq, Int.reduceAdd, Int.reduceSub, Int.reduceMul, Int.toNat_natCast, reduceCtorEq, decide_true, decide_false, IntWalk.i64_in, IntWalk.u64_in, IntWalk.u8_in]
    · simp (disch := omega) only [go_sem, ↓IntWalk.iteOmega, IntWalk.toNatUp, Nat.reduceEqDiff, Nat.reduceAdd, Nat.reduceMul, Nat.reduceSub, Nat.reduceLT, Nat.reduceLeDiff, Int.reduceToNat, Int.reduceLT, Int.reduceLE, Int.reduceEq, Int.reduceAdd, Int.reduceSub, Int.reduceMul, Int.toNat_natCast, reduceCtorEq, decide_true, decide_false, IntWalk.i64_in, IntWalk.u64_in, IntWalk.u8_in]
      refine htail false _ _ _ ?_ ?_ ?_ ?_ ?_
      · omega
      · simp (disch := omega) only [go_sem, ↓IntWalk.iteOmega, IntWalk.toNatUp, Nat.reduceEqDiff, Nat.reduceAdd, Nat.reduceMul, Nat.reduceSub, Nat.reduceLT, Nat.reduceLeDiff, Int.reduceToNat, Int.reduceLT, Int.reduceLE, Int.reduceEq, Int.reduceAdd, Int.reduceSub, Int.reduceMul, Int.toNat_natCast, reduceCtorEq, decide_true, decide_false, IntWalk.i64_in, IntWalk.u64_in, IntWalk.u8_in]
      · simp (disch := omega) only [go_sem, ↓IntWalk.iteOmega, IntWalk.toNatUp, Nat.reduceEqDiff, Nat.reduceAdd, Nat.reduceMul, Nat.reduceSub, Nat.reduceLT, Nat.reduceLeDiff, Int.reduceToNat, Int.reduceLT, Int.reduceLE, Int.reduceEq, Int.reduceAdd, Int.reduceSub, Int.reduceMul, Int.toNat_natCast, reduceCtorEq, decide_true, decide_false, IntWalk.i64_in, IntWalk.u64_in, IntWalk.u8_in]
      · simp (disch := omega) only [go_sem, ↓IntWalk.iteOmega, IntWalk.toNatUp, Nat.reduceEqDiff, Nat.reduceAdd, Nat.reduceMul, Nat.reduceSub, Nat.reduceLT, Nat.reduceLeDiff, Int.reduceToNat, Int.reduceLT, Int.reduceLE, Int.reduceEq, Int.reduceAdd, Int.reduceSub, Int.reduceMul, Int.toNat_natCast, reduceCtorEq, decide_true, decide_false, IntWalk.i64_in, IntWalk.u64_in, IntWalk.u8_in] <;> (simp only [AV.bool.injEq, decide_eq_true_eq, decide_eq_false_iff_not]; omega)
      · simp (disch := omega) only [go_sem, ↓IntWalk.iteOmega, IntWalk.toNatUp, Nat.reduceEqDiff, Nat.reduceAdd, Nat.reduceMul, Nat.reduceSub, Nat.reduceLT, Nat.reduceLeDiff, Int.reduceToNat, Int.reduceLT, Int.reduceLE, Int.reduceEq, Int.reduceAdd, Int.reduceSub, Int.reduceMul, Int.toNat_natCast, reduceCtorEq, decide_true, decide_false, IntWalk.i64_in, IntWalk.u64_in, IntWalk.u8_in]
    · by_cases h1 : (l.length : Int) = 1
      · simp (disch := omega) only [go_sem, ↓IntWalk.iteOmega, IntWalk.toNatUp, Nat.reduceEqDiff, Nat.reduceAdd, Nat.reduceMul, Nat.reduceSub, Nat.reduceLT, Nat.reduceLeDiff, Int.reduceToNat, Int.reduceLT, Int.reduceLE, Int.reduceEq, Int.reduceAdd, Int.reduceSub, Int.reduceMul, Int.toNat_natCast, reduceCtorEq, decide_true, decide_false, IntWalk.i64_in, IntWalk.u64_in, IntWalk.u8_in]
        refine htail false _ _ _ ?_ ?_ ?_ ?_ ?_
        · omega
        · simp (disch := omega) only [go_sem, ↓IntWalk.iteOmega, IntWalk.toNatUp, Nat.reduceEqDiff, Nat.reduceAdd, Nat.reduceMul, Nat.reduceSub, Nat.reduceLT, Nat.reduceLeDiff, Int.reduceToNat, Int.reduceLT, Int.reduceLE, Int.reduceEq, Int.reduceAdd, Int.reduceSub, Int.reduceMul, Int.toNat_natCast, reduceCtorEq, decide_true, decide_false, IntWalk.i64_in, IntWalk.u64_in, IntWalk.u8_in]
        · simp (disch := omega) only [go_sem, ↓IntWalk.iteOmega, IntWalk.toNatUp, Nat.reduceEqDiff, Nat.reduceAdd, Nat.reduceMul, Nat.reduceSub, Nat.reduceLT, Nat.reduceLeDiff, Int.reduceToNat, Int.reduceLT, Int.reduceLE, Int.reduceEq, Int.reduceAdd, Int.reduceSub, Int.reduceMul, Int.toNat_natCast, reduceCtorEq, decide_true, decide_false, IntWalk.i64_in, IntWalk.u64_in, IntWalk.u8_in]
        · simp (disch := omega) only [go_sem, ↓IntWalk.iteOmega, IntWalk.toNatUp, Nat.reduceEqDiff, Nat.reduceAdd, Nat.reduceMul, Nat.reduceSub, Nat.reduceLT, Nat.reduceLeDiff, Int.reduceToNat, Int.reduceLT, Int.reduceLE, Int.reduceEq, Int.reduceAdd, Int.reduceSub, Int.reduceMul, Int.toNat_natCast, reduceCtorEq, decide_true, decide_false, IntWalk.i64_in, IntWalk.u64_in, IntWalk.u8_in] <;> (simp only [AV.bool.injEq, decide_eq_true_eq, decide_eq_false_iff_not]; omega)
        · simp (disch := omega) only [go_sem, ↓IntWalk.iteOmega, IntWalk.toNatUp, Nat.reduceEqDiff, Nat.reduceAdd, Nat.reduceMul, Nat.reduceSub, Nat.reduceLT, Nat.reduceLeDiff, Int.reduceToNat, Int.reduceLT, Int.reduceLE, Int.reduceEq, Int.reduceAdd, Int.reduceSub, Int.reduceMul, Int.toNat_natCast, reduceCtorEq, decide_true, decide_false, IntWalk.i64_in, IntWalk.u64_in, IntWalk.u8_in]
      · simp (disch := omega) only [go_sem, ↓IntWalk.iteOmega, IntWalk.toNatUp, Nat.reduceEqDiff, Nat.reduceAdd, Nat.reduceMul, Nat.reduceSub, Nat.reduceLT, Nat.reduceLeDiff, Int.reduceToNat, Int.reduceLT, Int.reduceLE, Int.reduceEq, Int.reduceAdd, Int.reduceSub, Int.reduceMul, Int.toNat_natCast, reduceCtorEq, decide_true, decide_false, IntWalk.i64_in, IntWalk.u64_in, IntWalk.u8_in]
        refine htail false _ _ _ ?_ ?_ ?_ ?_ ?_
        · omega
        · simp (disch := omega) only [go_sem, ↓IntWalk.iteOmega, IntWalk.toNatUp, Nat.reduceEqDiff, Nat.reduceAdd, Nat.reduceMul, Nat.reduceSub, Nat.reduceLT, Nat.reduceLeDiff, Int.reduceToNat, Int.reduceLT, Int.reduceLE, Int.reduceEq, Int.reduceAdd, Int.reduceSub, Int.reduceMul, Int.toNat_natCast, reduceCtorEq, decide_true, decide_false, IntWalk.i64_in, IntWalk.u64_in, IntWalk.u8_in]
        · simp (disch := omega) only [go_sem, ↓IntWalk.iteOmega, IntWalk.toNatUp, Nat.reduceEqDiff, Nat.reduceAdd, Nat.reduceMul, Nat.reduceSub, Nat.reduceLT, Nat.reduceLeDiff, Int.reduceToNat, Int.reduceLT, Int.reduceLE, Int.reduceEq, Int.reduceAdd, Int.reduceSub, Int.reduceMul, Int.toNat_natCast, reduceCtorEq, decide_true, decide_false, IntWalk.i64_in, IntWalk.u64_in, IntWalk.u8_in]
        · simp (disch := omega) only [go_sem, ↓IntWalk.iteOmega, IntWalk.toNatUp, Nat.reduceEqDiff, Nat.reduceAdd, Nat.reduceMul, Nat.reduceSub, Nat.reduceLT, Nat.reduceLeDiff, Int.reduceToNat, Int.reduceLT, Int.reduceLE, Int.reduceEq, Int.reduceAdd, Int.reduceSub, Int.reduceMul, Int.toNat_natCast, reduceCtorEq, decide_true, decide_false, IntWalk.i64_in, IntWalk.u64_in, IntWalk.u8_in] <;> (simp only [AV.bool.injEq, decide_eq_true_eq, decide_eq_false_iff_not]; omega)
        · simp (disch := omega) only [go_sem, ↓IntWalk.iteOmega, IntWalk.toNatUp, Nat.reduceEqDiff, Nat.reduceAdd, Nat.reduceMul, Nat.reduceSub, Nat.reduceLT, Nat.reduceLeDiff, Int.reduceToNat, Int.reduceLT, Int.reduceLE, Int.reduceEq, Int.reduceAdd, Int.reduceSub, Int.reduceMul, Int.toNat_natCast, reduceCtorEq, decide_true, decide_false, IntWalk.i64_in, IntWalk.u64_in, IntWalk.u8_in]
    · by_cases h1 : (l.length : Int) = 1
      · simp (disch := omega) only [go_sem, ↓IntWalk.iteOmega, IntWalk.toNatUp, Nat.reduceEqDiff, Nat.reduceAdd, Nat.reduceMul, Nat.reduceSub, Nat.reduceLT, Nat.reduceLeDiff, Int.reduceToNat, Int.reduceLT, Int.reduceLE, Int.reduceEq, Int.reduceAdd, Int.reduceSub, Int.reduceMul, Int.toNat_natCast, reduceCtorEq, decide_true, decide_false, IntWalk.i64_in, IntWalk.u64_in, IntWalk.u8_in]
        refine htail false _ _ _ ?_ ?_ ?_ ?_ ?_
        · omega
        · simp (disch := omega) only [go_sem, ↓IntWalk.iteOmega, IntWalk.toNatUp, Nat.reduceEqDiff, Nat.reduceAdd, Nat.reduceMul, Nat.reduceSub, Nat.reduceLT, Nat.reduceLeDiff, Int.reduceToNat, Int.reduceLT, Int.reduceLE, Int.reduceEq, Int.reduceAdd, Int.reduceSub, Int.reduceMul, Int.toNat_natCast, reduceCtorEq, decide_true, decide_false, IntWalk.i64_in, IntWalk.u64_in, IntWalk.u8_in]
        · simp (disch := omega) only [go_sem, ↓IntWalk.iteOmega, IntWalk.toNatUp, Nat.reduceEqDiff, Nat.reduceAdd, Nat.reduceMul, Nat.reduceSub, Nat.reduceLT, Nat.reduceLeDiff, Int.reduceToNat, Int.reduceLT, Int.reduceLE, Int.reduceEq, Int.reduceAdd, Int.reduceSub, Int.reduceMul, Int.toNat_natCast, reduceCtorEq, decide_true, decide_false, IntWalk.i64_in, IntWalk.u64_in, IntWalk.u8_in]
        · simp (disch := omega) only [go_sem, ↓IntWalk.iteOmega, IntWalk.toNatUp, Nat.reduceEqDiff, Nat.reduceAdd, Nat.reduceMul, Nat.reduceSub, Nat.reduceLT, Nat.reduceLeDiff, Int.reduceToNat, Int.reduceLT, Int.reduceLE, Int.reduceEq, Int.reduceAdd, Int.reduceSub, Int.reduceMul, Int.toNat_natCast, reduceCtorEq, decide_true, decide_false, IntWalk.i64_in, IntWalk.u64_in, IntWalk.u8_in] <;> (simp only [AV.bool.injEq, decide_eq_true_eq, decide_eq_false_iff_not]; omega)
        · simp (disch := omega) only [go_sem, ↓IntWalk.iteOmega, IntWalk.toNatUp, Nat.reduceEqDiff, Nat.reduceAdd, Nat.reduceMul, Nat.reduceSub, Nat.reduceLT, Nat.reduceLeDiff, Int.reduceToNat, Int.reduceLT, Int.reduceLE, Int.reduceEq, Int.reduceAdd, Int.reduceSub, Int.reduceMul, Int.toNat_natCast, reduceCtorEq, decide_true, decide_false, IntWalk.i64_in, IntWalk.u64_in, IntWalk.u8_in]
      · simp (disch := omega) only [go_sem, ↓IntWalk.iteOmega, IntWalk.toNatUp, Nat.reduceEqDiff, Nat.reduceAdd, Nat.reduceMul, Nat.reduceSub, Nat.reduceLT, Nat.reduceLeDiff, Int.reduceToNat, Int.reduceLT, Int.reduceLE, Int.reduceEq, Int.reduceAdd, Int.reduceSub, Int.reduceMul, Int.toNat_natCast, reduceCtorEq, decide_true, decide_false, IntWalk.i64_in, IntWalk.u64_in, IntWalk.u8_in]
        refine htail false _ _ _ ?_ ?_ ?_ ?_ ?_
        · omega
        · simp (disch := omega) only [go_sem, ↓IntWalk.iteOmega, IntWalk.toNatUp, Nat.reduceEqDiff, Nat.reduceAdd, Nat.reduceMul, Nat.reduceSub, Nat.reduceLT, Nat.reduceLeDiff, Int.reduceToNat, Int.reduceLT, Int.reduceLE, Int.reduceEq, Int.reduceAdd, Int.reduceSub, Int.reduceMul, Int.toNat_natCast, reduceCtorEq, decide_true, decide_false, IntWalk.i64_in, IntWalk.u64_in, IntWalk.u8_in]
        · simp (disch := omega) only [go_sem, ↓IntWalk.iteOmega, IntWalk.toNatUp, Nat.reduceEqDiff, Nat.reduceAdd, Nat.reduceMul, Nat.reduceSub, Nat.reduceLT, Nat.reduceLeDiff, Int.reduceToNat, Int.reduceLT, Int.reduceLE, Int.reduceEq, Int.reduceAdd, Int.reduceSub, Int.reduceMul, Int.toNat_natCast, reduceCtorEq, decide_true, decide_false, IntWalk.i64_in, IntWalk.u64_in, IntWalk.u8_in]
        · simp (disch := omega) only [go_sem, ↓IntWalk.iteOmega, IntWalk.toNatUp, Nat.reduceEqDiff, Nat.reduceAdd, Nat.reduceMul, Nat.reduceSub, Nat.reduceLT, Nat.reduceLeDiff, Int.reduceToNat, Int.reduceLT, Int.reduceLE, Int.reduceEq, Int.reduceAdd, Int.reduceSub, Int.reduceMul, Int.toNat_natCast, reduceCtorEq, decide_true, decide_false, IntWalk.i64_in, IntWalk.u64_in, IntWalk.u8_in] <;> (simp only [AV.bool.injEq, decide_eq_true_eq, decide_eq_false_iff_not]; omega)
        · simp (disch := omega) only [go_sem, ↓IntWalk.iteOmega, IntWalk.toNatUp, Nat.reduceEqDiff, Nat.reduceAdd, Nat.reduceMul, Nat.reduceSub, Nat.reduceLT, Nat.reduceLeDiff, Int.reduceToNat, Int.reduceLT, Int.reduceLE, Int.reduceEq, Int.reduceAdd, Int.reduceSub, Int.reduceMul, Int.toNat_natCast, reduceCtorEq, decide_true, decide_false, IntWalk.i64_in, IntWalk.u64_in, IntWalk.u8_in]
    · by_cases h1 : (l.length : Int) = 1
      · simp (disch := omega) only [go_sem, ↓IntWalk.iteOmega, IntWalk.toNatUp, Nat.reduceEqDiff, Nat.reduceAdd, Nat.reduceMul, Nat.reduceSub, Nat.reduceLT, Nat.reduceLeDiff, Int.reduceToNat, Int.reduceLT, Int.reduceLE, Int.reduceEq, Int.reduceAdd, Int.reduceSub, Int.reduceMul, Int.toNat_natCast, reduceCtorEq, decide_true, decide_false, IntWalk.i64_in, IntWalk.u64_in, IntWalk.u8_in]
        refine htail false _ _ _ ?_ ?_ ?_ ?_ ?_
        · omega
        · simp (disch := omega) only [go_sem, ↓IntWalk.iteOmega, IntWalk.toNatUp, Nat.reduceEqDiff, Nat.reduceAdd, Nat.reduceMul, Nat.reduceSub, Nat.reduceLT, Nat.reduceLeDiff, Int.reduceToNat, Int.reduceLT, Int.reduceLE, Int.reduceEq, Int.reduceAdd, Int.reduceSub, Int.reduceMul, Int.toNat_natCast, reduceCtorEq, decide_true, decide_false, IntWalk.i64_in, IntWalk.u64_in, IntWalk.u8_in]
        · simp (disch := omega) only [go_sem, ↓IntWalk.iteOmega, IntWalk.toNatUp, Nat.reduceEqDiff, Nat.reduceAdd, Nat.reduceMul, Nat.reduceSub, Nat.reduceLT, Nat.reduceLeDiff, Int.reduceToNat, Int.reduceLT, Int.reduceLE, Int.reduceEq, Int.reduceAdd, Int.reduceSub, Int.reduceMul, Int.toNat_natCast, reduceCtorEq, decide_true, decide_false, IntWalk.i64_in, IntWalk.u64_in, IntWalk.u8_in]
        · simp (disch := omega) only [go_sem, ↓IntWalk.iteOmega, IntWalk.toNatUp, Nat.reduceEqDiff, Nat.reduceAdd, Nat.reduceMul, Nat.reduceSub, Nat.reduceLT, Nat.reduceLeDiff, Int.reduceToNat, Int.reduceLT, Int.reduceLE, Int.reduceEq, Int.reduceAdd, Int.reduceSub, Int.reduceMul, Int.toNat_natCast, reduceCtorEq, decide_true, decide_false, IntWalk.i64_in, IntWalk.u64_in, IntWalk.u8_in] <;> (simp only [AV.bool.injEq, decide_eq_true_eq, decide_eq_false_iff_not]; omega)
        · simp (disch := omega) only [go_sem, ↓IntWalk.iteOmega, IntWalk.toNatUp, Nat.reduceEqDiff, Nat.reduceAdd, Nat.reduceMul, Nat.reduceSub, Nat.reduceLT, Nat.reduceLeDiff, Int.reduceToNat, Int.reduceLT, Int.reduceLE, Int.reduceEq, Int.reduceAdd, Int.reduceSub, Int.reduceMul, Int.toNat_natCast, reduceCtorEq, decide_true, decide_false, IntWalk.i64_in, IntWalk.u64_in, IntWalk.u8_in]
      · simp (disch := omega) only [go_sem, ↓IntWalk.iteOmega, IntWalk.toNatUp, Nat.reduceEqDiff, Nat.reduceAdd, Nat.reduceMul, Nat.reduceSub, Nat.reduceLT, Nat.reduceLeDiff, Int.reduceToNat, Int.reduceLT, Int.reduceLE, Int.reduceEq, Int.reduceAdd, Int.reduceSub, Int.reduceMul, Int.toNat_natCast, reduceCtorEq, decide_true, decide_false, IntWalk.i64_in, IntWalk.u64_in, IntWalk.u8_in]
        refine htail false _ _ _ ?_ ?_ ?_ ?_ ?_
        · omega
        · simp (disch := omega) only [go_sem, ↓IntWalk.iteOmega, IntWalk.toNatUp, Nat.reduceEqDiff, Nat.reduceAdd, Nat.reduceMul, Nat.reduceSub, Nat.reduceLT, Nat.reduceLeDiff, Int.reduceToNat, Int.reduceLT, Int.reduceLE, Int.reduceEq, Int.reduceAdd, Int.reduceSub, Int.reduceMul, Int.toNat_natCast, reduceCtorEq, decide_true, decide_false, IntWalk.i64_in, IntWalk.u64_in, IntWalk.u8_in]
        · simp (disch := omega) only [go_sem, ↓IntWalk.iteOmega, IntWalk.toNatUp, Nat.reduceEqDiff, Nat.reduceAdd, Nat.reduceMul, Nat.reduceSub, Nat.reduceLT, Nat.reduceLeDiff, Int.reduceToNat, Int.reduceLT, Int.reduceLE, Int.reduceEq, Int.reduceAdd, Int.reduceSub, Int.reduceMul, Int.toNat_natCast, reduceCtorEq, decide_true, decide_false, IntWalk.i64_in, IntWalk.u64_in, IntWalk.u8_in]
        · simp (disch := omega) only [go_sem, ↓IntWalk.iteOmega, IntWalk.toNatUp, Nat.reduceEqDiff, Nat.reduceAdd, Nat.reduceMul, Nat.reduceSub, Nat.reduceLT, Nat.reduceLeDiff, Int.reduceToNat, Int.reduceLT, Int.reduceLE, Int.reduceEq, Int.reduceAdd, Int.reduceSub, Int.reduceMul, Int.toNat_natCast, reduceCtorEq, decide_true, decide_false, IntWalk.i64_in, IntWalk.u64_in, IntWalk.u8_in] <;> (simp only [AV.bool.injEq, decide_eq_true_eq, decide_eq_false_iff_not]; omega)
        · simp (disch := omega) only [go_sem, ↓IntWalk.iteOmega, IntWalk.toNatUp, Nat.reduceEqDiff, Nat.reduceAdd, Nat.reduceMul, Nat.reduceSub, Nat.reduceLT, Nat.reduceLeDiff, Int.reduceToNat, Int.reduceLT, Int.reduceLE, Int.reduceEq, Int.reduceAdd, Int.reduceSub, Int.reduceMul, Int.toNat_natCast, reduceCtorEq, decide_true, decide_false, IntWalk.i64_in, IntWalk.u64_in, IntWalk.u8_in]
theorem rright_ok : ∀ n : Nd, wideN n = true → Ok Tryd.prog 24 [nodeV n] (.bool (rightN n))
  | .mk k s lo hi l, hw => by
    rw [wideN, Bool.and_eq_true, decide_eq_true_eq] at hw
    refine ok_of_WP (E := EX md0 (tabLook [(24, tRel (RRight l))])) (cr := noR) (tab_cons (tab_nil _) (tRel_ok (fun args r h => by
      obtain ⟨j, hj, rfl, rfl⟩ := h
      have := size_at_lt hj k s lo hi
      exact rright_ok (l.getD j default) (wide_at hw.2 hj)))) (noR_ok _) mixed (k := 1002) Tryd.func24 (lookRRight _) rfl
      (WP_mono (rright_step k s lo hi l hw.1 _ (fun i hi => tRel_eq (RRight_fn l) ⟨i, hi, rfl, rfl⟩)) ?_)
    rintro u a o nx ⟨h, hv⟩
    refine ⟨h, ?_⟩
    simp only [Tryd.f24]
    simp (disch := omega) only [go_sem, ↓IntWalk.iteOmega, IntWalk.toNatUp, Nat.reduceEqDiff, Nat.reduceAdd, Nat.reduceMul, Nat.reduceSub, Nat.reduceLT, Nat.reduceLeDiff, Int.reduceToNat, Int.reduceLT, Int.reduceLE, Int.reduceEq, Int.reduceAdd, Int.reduceSub, Int.reduceMul, Int.toNat_natCast, reduceCtorEq, decide_true, decide_false, IntWalk.i64_in, IntWalk.u64_in, IntWalk.u8_in]
    exact hv
termination_by n => SizeOf.sizeOf n
decreasing_by
  exact this
end Go.Proofs.YtmcbfbpdfbcakaaDoor.A
/- What all laws' rows share: arguments that read are data. -/
namespace Go.Proofs.YtmcbfbpdfbcakaaDoor.A
open Go
theorem shaped_int {P : Program} {d : Nat} {t : TypeId} {xs : List AV} (hu : P.underlying t = some (.int .i64)) (h : Shaped P d t xs) : ∃ n, xs = [.int .i64 n] := by
  cases d with
  | zero => exact h.elim
  | succ d =>
    unfold Shaped at h
    rw [hu] at h
    obtain ⟨n, e, _⟩ := h
    exact ⟨n, e⟩
theorem ints_of {P : Program} {d : Nat} {t : TypeId} (hu : P.underlying t = some (.int .i64)) : ∀ parts : List (List AV), (∀ p ∈ parts, Shaped P d t p) → ∃ ns : List Int, parts.length = ns.length ∧ parts.flatten = cI ns
  | [], _ => ⟨[], rfl, rfl⟩
  | p :: parts, h => by
    obtain ⟨n, rfl⟩ := shaped_int hu (h p (List.mem_cons_self ..))
    obtain ⟨ns, h1, h2⟩ := ints_of hu parts (fun q hq => h q (List.mem_cons_of_mem _ hq))
    exact ⟨n :: ns, by simp [h1], by simp [cI, h2]⟩
theorem arg_ints {P : Program} {t e : TypeId} {x : AV} (hu : P.underlying t = some (.slice e)) (he : P.underlying e = some (.int .i64)) (h : ArgOf P t x) : ∃ ns : List Int, x = slI ns ∧ ns.length ≤ maxLen := by
  unfold ArgOf at h
  rw [hu] at h
  obtain ⟨d, h⟩ := h
  cases d with
  | zero => exact h.elim
  | succ d =>
    unfold Shaped at h
    rw [hu] at h
    obtain ⟨parts, e1, hle, h2⟩ := h
    injection e1 with e1 _
    obtain ⟨ns, h3, h4⟩ := ints_of he parts h2
    exact ⟨ns, by rw [e1, h3, h4], by omega⟩
theorem arg_bool {P : Program} {t : TypeId} {x : AV} (hu : P.underlying t = some .bool) (h : ArgOf P t x) : ∃ b, x = .bool b := by
  unfold ArgOf at h
  rw [hu] at h
  obtain ⟨d, h⟩ := h
  cases d with
  | zero => exact h.elim
  | succ d =>
    unfold Shaped at h
    rw [hu] at h
    obtain ⟨n, e⟩ := h
    injection e with e _
    exact ⟨n, e⟩
end Go.Proofs.YtmcbfbpdfbcakaaDoor.A
namespace Go.Proofs.YtmcbfbpdfbcakaaDoor
open Go Go.Proofs.YtmcbfbpdfbcakaaDoor.A
theorem Tryd.own : ownKnob Tryd.prog.godebug = none := by kernel_rfl
theorem Tryd.laidOut : laidOutB Tryd.prog = true := by kernel_rfl
end Go.Proofs.YtmcbfbpdfbcakaaDoor
