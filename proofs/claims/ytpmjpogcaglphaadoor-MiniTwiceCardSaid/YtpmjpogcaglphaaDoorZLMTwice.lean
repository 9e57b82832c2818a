/- MiniTwice answers true for whatever it is called with; the input reads as it did. -/
import Derived.Test.YtpmjpogcaglphaaDoorME91
import Derived.Test.YtpmjpogcaglphaaDoorME92
import Derived.Test.YtpmjpogcaglphaaDoorME93
import Derived.Test.YtpmjpogcaglphaaDoorME94
import Derived.Test.YtpmjpogcaglphaaDoorME95
import Derived.Test.YtpmjpogcaglphaaDoorME96
import Derived.Test.YtpmjpogcaglphaaDoorME97
import Derived.Test.YtpmjpogcaglphaaDoorME98
import Derived.Test.YtpmjpogcaglphaaDoorME99
import Derived.Test.YtpmjpogcaglphaaDoorME141
set_option linter.unusedVariables false
set_option linter.unusedSimpArgs false
set_option linter.unnecessarySimpa false
/- What is sealed reads as it did. -/
namespace Go.Proofs.YtpmjpogcaglphaaDoor.A
open Go
theorem aRow_sealed (ts : List Tag) (o : Ob) (k g : Tag) : aRow (sealed ts o) k g = (aRow o k g).map fun r => if ts.contains k then { r with ro := true } else r := by
  unfold aRow sealed
  cases o k with
  | none => rfl
  | some x =>
    cases x with
    | map es => rfl
    | row r =>
      dsimp only
      by_cases h : ts.contains k = true
      · simp only [h, if_true]
        by_cases hg : r.gen = g <;> simp [hg]
      · simp only [h, Bool.false_eq_true, if_false]
        by_cases hg : r.gen = g <;> simp [hg]
theorem view_sealed (ts : List Tag) (o : Ob) : ∀ (d : Nat) (v : AV), view (sealed ts o) d v = view o d v
  | 0, v => rfl
  | d + 1, v => by
    have ih := fun l : List AV => List.map_congr_left (l := l) fun x _ => view_sealed ts o d x
    cases v with
    | agg cs => simp only [view]; rw [ih]
    | tup cs => simp only [view]; rw [ih]
    | fn f x y => simp only [view]; rw [ih, ih]
    | ref k g off n =>
      simp only [view]
      rw [aRow_sealed]
      cases aRow o k g with
      | none => rfl
      | some r =>
        simp only [Option.map_some]
        by_cases h : ts.contains k = true
        · simp only [h, if_true]; rw [ih]
        · simp only [h, Bool.false_eq_true, if_false]; rw [ih]
    | ptr k g off =>
      simp only [view]
      rw [aRow_sealed]
      cases aRow o k g with
      | none => rfl
      | some r =>
        simp only [Option.map_some]
        by_cases h : ts.contains k = true
        · simp only [h, if_true]; rw [ih]
        · simp only [h, Bool.false_eq_true, if_false]; rw [ih]
    | _ => rfl
theorem tags_sealed (ts : List Tag) (o : Ob) : ∀ (d : Nat) (v : AV), viewTags (sealed ts o) d v = viewTags o d v
  | 0, v => rfl
  | d + 1, v => by
    have ih : ∀ l : List AV, l.flatMap (viewTags (sealed ts o) d) = l.flatMap (viewTags o d) := fun l => by
      rw [List.flatMap_def, List.flatMap_def]
      congr 1
      exact List.map_congr_left fun x _ => tags_sealed ts o d x
    cases v with
    | agg cs => simp only [viewTags]; rw [ih]
    | tup cs => simp only [viewTags]; rw [ih]
    | fn f x y => simp only [viewTags]; rw [ih, ih]
    | ref k g off n =>
      simp only [viewTags]
      rw [aRow_sealed]
      cases aRow o k g with
      | none => rfl
      | some r =>
        simp only [Option.map_some]
        by_cases h : ts.contains k = true
        · simp only [h, if_true]; rw [ih]
        · simp only [h, Bool.false_eq_true, if_false]; rw [ih]
    | ptr k g off =>
      simp only [viewTags]
      rw [aRow_sealed]
      cases aRow o k g with
      | none => rfl
      | some r =>
        simp only [Option.map_some]
        by_cases h : ts.contains k = true
        · simp only [h, if_true]; rw [ih]
        · simp only [h, Bool.false_eq_true, if_false]; rw [ih]
    | _ => rfl
end Go.Proofs.YtpmjpogcaglphaaDoor.A
/- A, part 35: footprints of guarded operations. -/
namespace Go.Proofs.YtpmjpogcaglphaaDoor.A
open Go
def fG (y : Option (Option Bool)) (want : Bool) (fp : FP) : FP := match y with
  | some (some b) => if b = want then fp else FP.none_
  | _ => FP.none_
@[go_sem] theorem ft_guard (E : Env) (st : Nat) (ops : Array Oper) (d op ty p af j want a H) : foot E st ops ⟨d, op, ty, p, af, some (j, want)⟩ a H = fG (yieldedA ops a j) want (foot E st ops ⟨d, op, ty, p, af, none⟩ a H) := by
  unfold fG
  cases hy : yieldedA ops a j with
  | none => unfold foot wantedA; simp only [hy, Option.map_none]; rfl
  | some y =>
    cases y with
    | none => unfold foot wantedA; simp only [hy, Option.map_some]; rfl
    | some b =>
      unfold foot wantedA
      simp only [hy, Option.map_some]
      cases b <;> cases want <;> rfl
@[go_sem] theorem fG_none (w fp) : fG (some none) w fp = FP.none_ := rfl
@[go_sem] theorem fG_tt (fp) : fG (some (some true)) true fp = fp := rfl
@[go_sem] theorem fG_ft (fp) : fG (some (some false)) true fp = FP.none_ := rfl
@[go_sem] theorem fG_tf (fp) : fG (some (some true)) false fp = FP.none_ := rfl
@[go_sem] theorem fG_ff (fp) : fG (some (some false)) false fp = fp := rfl
@[go_sem] theorem fG_decide (p : Prop) [Decidable p] (w fp) : fG (some (some (decide p))) w fp = fG (some (some (if p then true else false))) w fp := by
  by_cases h : p <;> simp [h]
end Go.Proofs.YtpmjpogcaglphaaDoor.A
namespace Go.Proofs.YtpmjpogcaglphaaDoor.A
open Go
set_option maxRecDepth 20000
def twE (n : Nat) (N : List Int) (tu : List Bool) (p : Nat) : Nat := (N.getD ((p / 5 % n) * 5 + p % 5) 0).toNat + (if tu.getD p false then n else 0)
def twN (n : Nat) (N : List Int) (tu : List Bool) (q : Nat) : List Nat := (List.range (q * 5)).map (twE n N tu)
def twR (n : Nat) (N : List Int) (tu : List Bool) (q : Nat) : List Nat := (List.range 5).map fun j => twE n N tu (q * 5 + j)
def twP (n : Nat) (N : List Int) (tu : List Bool) (q j : Nat) : List Int := (List.range 5).map fun j' => if j' < j then ((twE n N tu (q * 5 + j') : Nat) : Int) else N.getD ((q % n) * 5 + j') 0
def twA (n : Nat) (A : List Bool) (q : Nat) : List Bool := (List.range q).map fun q => A.getD (q % n) false
theorem twN_len (n N tu q) : (twN n N tu q).length = q * 5 := by simp [twN]
theorem twR_len (n N tu q) : (twR n N tu q).length = 5 := by simp [twR]
theorem twP_len (n N tu q j) : (twP n N tu q j).length = 5 := by simp [twP]
theorem twA_len (n A q) : (twA n A q).length = q := by simp [twA]
theorem twN_succ (n N tu q) : twN n N tu (q + 1) = twN n N tu q ++ twR n N tu q := by
  rw [twN, show (q + 1) * 5 = q * 5 + 5 by omega, List.range_add, List.map_append, List.map_map]
  rfl
theorem twA_succ (n A q) : twA n A (q + 1) = twA n A q ++ [A.getD (q % n) false] := by simp [twA, List.range_succ]
theorem twP_at {n N tu q j p} (h : p < 5) : (twP n N tu q j).getD p 0 = if p < j then ((twE n N tu (q * 5 + p) : Nat) : Int) else N.getD ((q % n) * 5 + p) 0 := by
  unfold twP
  rw [List.getD_eq_getElem?_getD, List.getElem?_map, List.getElem?_range h]
  rfl
theorem twP_end (n N tu q) : twP n N tu q 5 = nL (twR n N tu q) := ext_getD (by rw [twP_len, nL_len, twR_len]) fun p hp => by
  rw [twP_len] at hp
  rw [twP_at hp, if_pos hp, nL_get]
  congr 1
  unfold twR
  rw [List.getD_eq_getElem?_getD, List.getElem?_map, List.getElem?_range hp]
  rfl
theorem twE_at {n N tu q p} (h : p < 5) : twE n N tu (q * 5 + p) = (N.getD ((q % n) * 5 + p) 0).toNat + (if tu.getD (q * 5 + p) false then n else 0) := by
  unfold twE
  rw [show (q * 5 + p) / 5 = q by omega, show (q * 5 + p) % 5 = p by omega]
theorem twP_set {n N tu q j} (h : j < 5) : (twP n N tu q j).set j ((twE n N tu (q * 5 + j) : Nat) : Int) = twP n N tu q (j + 1) := ext_getD (by simp [twP_len]) fun p hp => by
  rw [List.length_set, twP_len] at hp
  rw [getD_set _ _ _ _ _ (by rw [twP_len]; exact h), twP_at hp, twP_at hp]
  by_cases e : j = p
  · rw [if_pos e, if_pos (by omega), e]
  · rw [if_neg e]
    by_cases e2 : p < j
    · rw [if_pos e2, if_pos (by omega)]
    · rw [if_neg e2, if_neg (by omega)]
theorem twP_start {n : Nat} {N : List Int} {A : List Bool} (hw : WfD n N A) (tu : List Bool) {q : Nat} : twP n N tu q 0 = row5 N (q % n) := by
  have hn := hw.sz
  have hN := hw.l
  have hq := Nat.mod_lt q (show 0 < n by omega)
  refine ext_getD (by rw [twP_len, row5_len hN hq]) fun p hp => ?_
  rw [twP_len] at hp
  rw [twP_at hp, if_neg (by omega), row5, List.getD_eq_getElem?_getD, List.getD_eq_getElem?_getD, List.getElem?_take, if_pos hp, List.getElem?_drop]
theorem tw_wf {n : Nat} {N : List Int} {A : List Bool} (hw : WfD n N A) (hn9 : n ≤ 1000) (tu : List Bool) : WfD (2 * n) (nL (twN n N tu (2 * n))) (twA n A (2 * n)) := by
  have hn := hw.sz
  refine ⟨by omega, by rw [nL_len, twN_len]; omega, twA_len .., fun x hx => ?_⟩
  obtain ⟨y, hy, rfl⟩ := List.mem_map.1 hx
  obtain ⟨p, hp, rfl⟩ := List.mem_map.1 hy
  have := hw.get (k := (p / 5 % n) * 5 + p % 5) (by have := Nat.mod_lt (p / 5) (show 0 < n by omega); omega)
  unfold twE
  split <;> omega
theorem tw_eqv {n : Nat} {N : List Int} {A : List Bool} (hw : WfD n N A) (hn9 : n ≤ 1000) (tu : List Bool) : Eqv N A (nL (twN n N tu (2 * n))) (twA n A (2 * n)) 0 0 := by
  have hn := hw.sz
  have hw2 := tw_wf hw hn9 tu
  have h := hom_eqv (N := N) (A := A) (φ := fun y => y % n) hw2.okD (fun y hy => by
    rw [hw2.a] at hy
    unfold twA
    rw [List.getD_eq_getElem?_getD, List.getElem?_map, List.getElem?_range hy]
    rfl) (fun y m hy hm => by
    rw [hw2.a] at hy
    have hg := hw.get (k := (y % n) * 5 + m) (by have := Nat.mod_lt y (show 0 < n by omega); omega)
    have e : (twN n N tu (2 * n)).getD (y * 5 + m) 0 = twE n N tu (y * 5 + m) := by
      unfold twN
      rw [List.getD_eq_getElem?_getD, List.getElem?_map, List.getElem?_range (by omega)]
      rfl
    rw [nL_get, Int.toNat_natCast, e, twE_at hm]
    split
    · rw [Nat.add_mod_right, Nat.mod_eq_of_lt (by omega)]
    · rw [Nat.add_zero, Nat.mod_eq_of_lt (by omega)]) (y := 0) (by rw [hw2.a]; omega)
  rwa [Nat.zero_mod] at h
def nzTw : Nat → Option (List (Nat × Nat))
  | 20 => some [(1, 7)]
  | 22 => some [(4, 5)]
  | _ => none
theorem lookTw : lookedAt (EX md0 XM1) nzTw 4 Tryd.f11 = true := by kernel_rfl
set_option maxHeartbeats 8000000 in
theorem mtw_ok (size : Int) (ns : List Int) (acc : Int) (tu : List Bool) : Ok Tryd.prog 11 [.int .i64 size, slI ns, .int .i64 acc, slB tu] (.bool true) := by
  refine ok_of_WP (E := EX md0 XM1) (cr := noR) XM1_ok (noR_ok _) mixed (k := 30) Tryd.func11 lookTw rfl ?_
  have hw := wf7 size ns acc
  have hkn := XM1_known
  have hmk := XM1_make size ns acc
  have hsz := size7_in size
  generalize hn : size7 size = n at *
  have eN : N7 size ns acc = next7 n ns acc n := by rw [N7, hn]
  have eA : A7 size acc = accs7 acc n := by rw [A7, hn]
  rw [eN, eA] at hmk
  generalize next7 n ns acc n = N at *
  generalize accs7 acc n = A at *
  have hA := hw.a
  have hN := hw.l
  simp only [Tryd.f11, Option.getD_some]
  simp (disch := omega) only [go_sem, ↓IntWalk.iteOmega, IntWalk.toNatUp, Nat.reduceEqDiff, Nat.reduceAdd, Nat.reduceMul, Nat.reduceSub, Nat.reduceLT, Nat.reduceLeDiff, Int.reduceToNat, Int.reduceLT, Int.reduceLE, Int.reduceEq, Int.reduceAdd, Int.reduceSub, Int.reduceMul, Int.toNat_natCast, reduceCtorEq, decide_true, decide_false, IntWalk.i64_in, IntWalk.u64_in, IntWalk.u8_in, hkn, hmk, nzTw]
  refine WP_loop (fun mm a o nx => ∃ (c : Nat) (vN vA : AV), c ≤ 2 ∧ mm = 2 - c ∧ 5 ≤ nx ∧ HS 54 5 77 o nx vN (c * n) (cI (nL (twN n N tu (c * n)))) ∧ HS 4 1 87 o nx vA (c * n) (cB (twA n A (c * n))) ∧
      o (2, 9) = some (.row ⟨27, 1, (2, 9), false, true, [.sl n (cI N), .sl n (cB A)]⟩) ∧ o (4, 11) = some (.row ⟨27, 1, (4, 11), false, true, [vN, vA]⟩) ∧
      a 3 = slB tu ∧ a 9 = .ptr (2, 9) (2, 9) 0 ∧ a 10 = .int .i64 n ∧ a 11 = .ptr (4, 11) (4, 11) 0 ∧ a 12 = .int .i64 c) 2 (by omega)
    ⟨0, .nil, .nil, by omega, by omega, by omega, by rw [Nat.zero_mul]; exact HS.nil, by rw [Nat.zero_mul]; exact HS.nil, by simp (disch := omega) only [go_sem, ↓IntWalk.iteOmega, IntWalk.toNatUp, Nat.reduceEqDiff, Nat.reduceAdd, Nat.reduceMul, Nat.reduceSub, Nat.reduceLT, Nat.reduceLeDiff, Int.reduceToNat, Int.reduceLT, Int.reduceLE, Int.reduceEq, Int.reduceAdd, Int.reduceSub, Int.reduceMul, Int.toNat_natCast, reduceCtorEq, decide_true, decide_false, IntWalk.i64_in, IntWalk.u64_in, IntWalk.u8_in], by simp (disch := omega) only [go_sem, ↓IntWalk.iteOmega, IntWalk.toNatUp, Nat.reduceEqDiff, Nat.reduceAdd, Nat.reduceMul, Nat.reduceSub, Nat.reduceLT, Nat.reduceLeDiff, Int.reduceToNat, Int.reduceLT, Int.reduceLE, Int.reduceEq, Int.reduceAdd, Int.reduceSub, Int.reduceMul, Int.toNat_natCast, reduceCtorEq, decide_true, decide_false, IntWalk.i64_in, IntWalk.u64_in, IntWalk.u8_in], by simp (disch := omega) only [go_sem, ↓IntWalk.iteOmega, IntWalk.toNatUp, Nat.reduceEqDiff, Nat.reduceAdd, Nat.reduceMul, Nat.reduceSub, Nat.reduceLT, Nat.reduceLeDiff, Int.reduceToNat, Int.reduceLT, Int.reduceLE, Int.reduceEq, Int.reduceAdd, Int.reduceSub, Int.reduceMul, Int.toNat_natCast, reduceCtorEq, decide_true, decide_false, IntWalk.i64_in, IntWalk.u64_in, IntWalk.u8_in], by simp (disch := omega) only [go_sem, ↓IntWalk.iteOmega, IntWalk.toNatUp, Nat.reduceEqDiff, Nat.reduceAdd, Nat.reduceMul, Nat.reduceSub, Nat.reduceLT, Nat.reduceLeDiff, Int.reduceToNat, Int.reduceLT, Int.reduceLE, Int.reduceEq, Int.reduceAdd, Int.reduceSub, Int.reduceMul, Int.toNat_natCast, reduceCtorEq, decide_true, decide_false, IntWalk.i64_in, IntWalk.u64_in, IntWalk.u8_in], by simp (disch := omega) only [go_sem, ↓IntWalk.iteOmega, IntWalk.toNatUp, Nat.reduceEqDiff, Nat.reduceAdd, Nat.reduceMul, Nat.reduceSub, Nat.reduceLT, Nat.reduceLeDiff, Int.reduceToNat, Int.reduceLT, Int.reduceLE, Int.reduceEq, Int.reduceAdd, Int.reduceSub, Int.reduceMul, Int.toNat_natCast, reduceCtorEq, decide_true, decide_false, IntWalk.i64_in, IntWalk.u64_in, IntWalk.u8_in], by simp (disch := omega) only [go_sem, ↓IntWalk.iteOmega, IntWalk.toNatUp, Nat.reduceEqDiff, Nat.reduceAdd, Nat.reduceMul, Nat.reduceSub, Nat.reduceLT, Nat.reduceLeDiff, Int.reduceToNat, Int.reduceLT, Int.reduceLE, Int.reduceEq, Int.reduceAdd, Int.reduceSub, Int.reduceMul, Int.toNat_natCast, reduceCtorEq, decide_true, decide_false, IntWalk.i64_in, IntWalk.u64_in, IntWalk.u8_in], by simp (disch := omega) only [go_sem, ↓IntWalk.iteOmega, IntWalk.toNatUp, Nat.reduceEqDiff, Nat.reduceAdd, Nat.reduceMul, Nat.reduceSub, Nat.reduceLT, Nat.reduceLeDiff, Int.reduceToNat, Int.reduceLT, Int.reduceLE, Int.reduceEq, Int.reduceAdd, Int.reduceSub, Int.reduceMul, Int.toNat_natCast, reduceCtorEq, decide_true, decide_false, IntWalk.i64_in, IntWalk.u64_in, IntWalk.u8_in]⟩ ?_
  rintro mm a o nx ⟨c, vN, vA, hc, hmm, hnx, hvN, hvA, o9, o11, h3, h9, h10, h11, h12⟩
  by_cases hc2 : c < 2
  · obtain ⟨cn, hcn⟩ : ∃ cn, cn = c * n := ⟨_, rfl⟩
    have hcn18 : cn ≤ 9 := by
      rw [hcn]
      exact Nat.le_trans (Nat.mul_le_mul (show c ≤ 1 by omega) hsz.2.1) (by omega)
    have hp5 : (c : Int) * 5 * (n : Int) = ((cn * 5 : Nat) : Int) := by
      rw [hcn]
      simp only [Int.natCast_mul]
      rw [Int.mul_right_comm]
      rfl
    rw [← hcn] at hvN hvA
    simp (disch := omega) only [go_sem, ↓IntWalk.iteOmega, IntWalk.toNatUp, Nat.reduceEqDiff, Nat.reduceAdd, Nat.reduceMul, Nat.reduceSub, Nat.reduceLT, Nat.reduceLeDiff, Int.reduceToNat, Int.reduceLT, Int.reduceLE, Int.reduceEq, Int.reduceAdd, Int.reduceSub, Int.reduceMul, Int.toNat_natCast, reduceCtorEq, decide_true, decide_false, IntWalk.i64_in, IntWalk.u64_in, IntWalk.u8_in, h3, h9, h10, h11, h12]
    refine WP_loop (fun mm a o nx => ∃ (i : Nat) (vN vA : AV), i ≤ n ∧ mm = n - i ∧ 5 ≤ nx ∧ HS 54 5 77 o nx vN (cn + i) (cI (nL (twN n N tu (cn + i)))) ∧ HS 4 1 87 o nx vA (cn + i) (cB (twA n A (cn + i))) ∧
        o (2, 9) = some (.row ⟨27, 1, (2, 9), false, true, [.sl n (cI N), .sl n (cB A)]⟩) ∧ o (4, 11) = some (.row ⟨27, 1, (4, 11), false, true, [vN, vA]⟩) ∧
        a 3 = slB tu ∧ a 9 = .ptr (2, 9) (2, 9) 0 ∧ a 10 = .int .i64 n ∧ a 11 = .ptr (4, 11) (4, 11) 0 ∧ a 12 = .int .i64 c ∧ a 13 = .int .i64 i) n (by omega)
      ⟨0, vN, vA, by omega, by omega, by omega, hvN.keep (fun _ _ => rfl) (by omega), hvA.keep (fun _ _ => rfl) (by omega), by simp (disch := omega) only [go_sem, ↓IntWalk.iteOmega, IntWalk.toNatUp, Nat.reduceEqDiff, Nat.reduceAdd, Nat.reduceMul, Nat.reduceSub, Nat.reduceLT, Nat.reduceLeDiff, Int.reduceToNat, Int.reduceLT, Int.reduceLE, Int.reduceEq, Int.reduceAdd, Int.reduceSub, Int.reduceMul, Int.toNat_natCast, reduceCtorEq, decide_true, decide_false, IntWalk.i64_in, IntWalk.u64_in, IntWalk.u8_in, o9], by simp (disch := omega) only [go_sem, ↓IntWalk.iteOmega, IntWalk.toNatUp, Nat.reduceEqDiff, Nat.reduceAdd, Nat.reduceMul, Nat.reduceSub, Nat.reduceLT, Nat.reduceLeDiff, Int.reduceToNat, Int.reduceLT, Int.reduceLE, Int.reduceEq, Int.reduceAdd, Int.reduceSub, Int.reduceMul, Int.toNat_natCast, reduceCtorEq, decide_true, decide_false, IntWalk.i64_in, IntWalk.u64_in, IntWalk.u8_in, o11], by simp (disch := omega) only [go_sem, ↓IntWalk.iteOmega, IntWalk.toNatUp, Nat.reduceEqDiff, Nat.reduceAdd, Nat.reduceMul, Nat.reduceSub, Nat.reduceLT, Nat.reduceLeDiff, Int.reduceToNat, Int.reduceLT, Int.reduceLE, Int.reduceEq, Int.reduceAdd, Int.reduceSub, Int.reduceMul, Int.toNat_natCast, reduceCtorEq, decide_true, decide_false, IntWalk.i64_in, IntWalk.u64_in, IntWalk.u8_in, h3], by simp (disch := omega) only [go_sem, ↓IntWalk.iteOmega, IntWalk.toNatUp, Nat.reduceEqDiff, Nat.reduceAdd, Nat.reduceMul, Nat.reduceSub, Nat.reduceLT, Nat.reduceLeDiff, Int.reduceToNat, Int.reduceLT, Int.reduceLE, Int.reduceEq, Int.reduceAdd, Int.reduceSub, Int.reduceMul, Int.toNat_natCast, reduceCtorEq, decide_true, decide_false, IntWalk.i64_in, IntWalk.u64_in, IntWalk.u8_in, h9], by simp (disch := omega) only [go_sem, ↓IntWalk.iteOmega, IntWalk.toNatUp, Nat.reduceEqDiff, Nat.reduceAdd, Nat.reduceMul, Nat.reduceSub, Nat.reduceLT, Nat.reduceLeDiff, Int.reduceToNat, Int.reduceLT, Int.reduceLE, Int.reduceEq, Int.reduceAdd, Int.reduceSub, Int.reduceMul, Int.toNat_natCast, reduceCtorEq, decide_true, decide_false, IntWalk.i64_in, IntWalk.u64_in, IntWalk.u8_in, h10], by simp (disch := omega) only [go_sem, ↓IntWalk.iteOmega, IntWalk.toNatUp, Nat.reduceEqDiff, Nat.reduceAdd, Nat.reduceMul, Nat.reduceSub, Nat.reduceLT, Nat.reduceLeDiff, Int.reduceToNat, Int.reduceLT, Int.reduceLE, Int.reduceEq, Int.reduceAdd, Int.reduceSub, Int.reduceMul, Int.toNat_natCast, reduceCtorEq, decide_true, decide_false, IntWalk.i64_in, IntWalk.u64_in, IntWalk.u8_in, h11], by simp (disch := omega) only [go_sem, ↓IntWalk.iteOmega, IntWalk.toNatUp, Nat.reduceEqDiff, Nat.reduceAdd, Nat.reduceMul, Nat.reduceSub, Nat.reduceLT, Nat.reduceLeDiff, Int.reduceToNat, Int.reduceLT, Int.reduceLE, Int.reduceEq, Int.reduceAdd, Int.reduceSub, Int.reduceMul, Int.toNat_natCast, reduceCtorEq, decide_true, decide_false, IntWalk.i64_in, IntWalk.u64_in, IntWalk.u8_in, h12], by simp (disch := omega) only [go_sem, ↓IntWalk.iteOmega, IntWalk.toNatUp, Nat.reduceEqDiff, Nat.reduceAdd, Nat.reduceMul, Nat.reduceSub, Nat.reduceLT, Nat.reduceLeDiff, Int.reduceToNat, Int.reduceLT, Int.reduceLE, Int.reduceEq, Int.reduceAdd, Int.reduceSub, Int.reduceMul, Int.toNat_natCast, reduceCtorEq, decide_true, decide_false, IntWalk.i64_in, IntWalk.u64_in, IntWalk.u8_in]⟩ ?_
    clear h3 h9 h10 h11 h12 o9 o11 hvN hvA hnx
    rintro mm' a o nx ⟨i, vN, vA, hi, hmm', hnx, hvN, hvA, o9, o11, h3, h9, h10, h11, h12, h13⟩
    by_cases hlt : i < n
    · have hqi : (cn + i) % n = i := by rw [hcn, Nat.add_comm, Nat.add_mul_mod_self_right, Nat.mod_eq_of_lt hlt]
      obtain ⟨r1, r2⟩ := row5_cells hN hlt
      have hrow0 := twP_start hw tu (q := cn + i)
      rw [hqi] at hrow0
      rw [← hrow0] at r1
      have hl0 : (cI (twP n N tu (cn + i) 0)).length = 5 := by rw [cI_length, twP_len]
      have htk0 : (cI (twP n N tu (cn + i) 0)).take 5 = cI (twP n N tu (cn + i) 0) := take_len hl0
      have hok0 := cI_ok (twP n N tu (cn + i) 0)
      have hdz : List.drop 5 [AV.int .i64 0, .int .i64 0, .int .i64 0, .int .i64 0, .int .i64 0] = [] := rfl
      simp (disch := omega) only [go_sem, ↓IntWalk.iteOmega, IntWalk.toNatUp, Nat.reduceEqDiff, Nat.reduceAdd, Nat.reduceMul, Nat.reduceSub, Nat.reduceLT, Nat.reduceLeDiff, Int.reduceToNat, Int.reduceLT, Int.reduceLE, Int.reduceEq, Int.reduceAdd, Int.reduceSub, Int.reduceMul, Int.toNat_natCast, reduceCtorEq, decide_true, decide_false, IntWalk.i64_in, IntWalk.u64_in, IntWalk.u8_in, h3, h9, h10, h11, h12, h13, o9, r1, r2, hl0, htk0, hok0, hdz, List.append_nil]
      refine WP_loop (fun mm a o' nx' => ∃ j : Nat, j ≤ 5 ∧ mm = 5 - j ∧ nx + 3 ≤ nx' ∧ Frz [9, 11, 77, 87] nx o o' ∧ o' (nx + 1, 14) = some (.row ⟨54, 1, (nx + 1, 14), false, true, cI (twP n N tu (cn + i) j)⟩) ∧
          a 3 = slB tu ∧ a 9 = .ptr (2, 9) (2, 9) 0 ∧ a 10 = .int .i64 n ∧ a 11 = .ptr (4, 11) (4, 11) 0 ∧ a 12 = .int .i64 c ∧ a 13 = .int .i64 i ∧ a 14 = .ptr (nx + 1, 14) (nx + 1, 14) 0 ∧ a 15 = .int .i64 j) 5 (by omega)
        ⟨0, by omega, by omega, by omega, ((Frz.refl _ _ _).upd (.inl (by omega))).upd (.inl (by omega)), by simp (disch := omega) only [go_sem, ↓IntWalk.iteOmega, IntWalk.toNatUp, Nat.reduceEqDiff, Nat.reduceAdd, Nat.reduceMul, Nat.reduceSub, Nat.reduceLT, Nat.reduceLeDiff, Int.reduceToNat, Int.reduceLT, Int.reduceLE, Int.reduceEq, Int.reduceAdd, Int.reduceSub, Int.reduceMul, Int.toNat_natCast, reduceCtorEq, decide_true, decide_false, IntWalk.i64_in, IntWalk.u64_in, IntWalk.u8_in], by simp (disch := omega) only [go_sem, ↓IntWalk.iteOmega, IntWalk.toNatUp, Nat.reduceEqDiff, Nat.reduceAdd, Nat.reduceMul, Nat.reduceSub, Nat.reduceLT, Nat.reduceLeDiff, Int.reduceToNat, Int.reduceLT, Int.reduceLE, Int.reduceEq, Int.reduceAdd, Int.reduceSub, Int.reduceMul, Int.toNat_natCast, reduceCtorEq, decide_true, decide_false, IntWalk.i64_in, IntWalk.u64_in, IntWalk.u8_in, h3], by simp (disch := omega) only [go_sem, ↓IntWalk.iteOmega, IntWalk.toNatUp, Nat.reduceEqDiff, Nat.reduceAdd, Nat.reduceMul, Nat.reduceSub, Nat.reduceLT, Nat.reduceLeDiff, Int.reduceToNat, Int.reduceLT, Int.reduceLE, Int.reduceEq, Int.reduceAdd, Int.reduceSub, Int.reduceMul, Int.toNat_natCast, reduceCtorEq, decide_true, decide_false, IntWalk.i64_in, IntWalk.u64_in, IntWalk.u8_in, h9], by simp (disch := omega) only [go_sem, ↓IntWalk.iteOmega, IntWalk.toNatUp, Nat.reduceEqDiff, Nat.reduceAdd, Nat.reduceMul, Nat.reduceSub, Nat.reduceLT, Nat.reduceLeDiff, Int.reduceToNat, Int.reduceLT, Int.reduceLE, Int.reduceEq, Int.reduceAdd, Int.reduceSub, Int.reduceMul, Int.toNat_natCast, reduceCtorEq, decide_true, decide_false, IntWalk.i64_in, IntWalk.u64_in, IntWalk.u8_in, h10], by simp (disch := omega) only [go_sem, ↓IntWalk.iteOmega, IntWalk.toNatUp, Nat.reduceEqDiff, Nat.reduceAdd, Nat.reduceMul, Nat.reduceSub, Nat.reduceLT, Nat.reduceLeDiff, Int.reduceToNat, Int.reduceLT, Int.reduceLE, Int.reduceEq, Int.reduceAdd, Int.reduceSub, Int.reduceMul, Int.toNat_natCast, reduceCtorEq, decide_true, decide_false, IntWalk.i64_in, IntWalk.u64_in, IntWalk.u8_in, h11], by simp (disch := omega) only [go_sem, ↓IntWalk.iteOmega, IntWalk.toNatUp, Nat.reduceEqDiff, Nat.reduceAdd, Nat.reduceMul, Nat.reduceSub, Nat.reduceLT, Nat.reduceLeDiff, Int.reduceToNat, Int.reduceLT, Int.reduceLE, Int.reduceEq, Int.reduceAdd, Int.reduceSub, Int.reduceMul, Int.toNat_natCast, reduceCtorEq, decide_true, decide_false, IntWalk.i64_in, IntWalk.u64_in, IntWalk.u8_in, h12], by simp (disch := omega) only [go_sem, ↓IntWalk.iteOmega, IntWalk.toNatUp, Nat.reduceEqDiff, Nat.reduceAdd, Nat.reduceMul, Nat.reduceSub, Nat.reduceLT, Nat.reduceLeDiff, Int.reduceToNat, Int.reduceLT, Int.reduceLE, Int.reduceEq, Int.reduceAdd, Int.reduceSub, Int.reduceMul, Int.toNat_natCast, reduceCtorEq, decide_true, decide_false, IntWalk.i64_in, IntWalk.u64_in, IntWalk.u8_in, h13], by simp (disch := omega) only [go_sem, ↓IntWalk.iteOmega, IntWalk.toNatUp, Nat.reduceEqDiff, Nat.reduceAdd, Nat.reduceMul, Nat.reduceSub, Nat.reduceLT, Nat.reduceLeDiff, Int.reduceToNat, Int.reduceLT, Int.reduceLE, Int.reduceEq, Int.reduceAdd, Int.reduceSub, Int.reduceMul, Int.toNat_natCast, reduceCtorEq, decide_true, decide_false, IntWalk.i64_in, IntWalk.u64_in, IntWalk.u8_in], by simp (disch := omega) only [go_sem, ↓IntWalk.iteOmega, IntWalk.toNatUp, Nat.reduceEqDiff, Nat.reduceAdd, Nat.reduceMul, Nat.reduceSub, Nat.reduceLT, Nat.reduceLeDiff, Int.reduceToNat, Int.reduceLT, Int.reduceLE, Int.reduceEq, Int.reduceAdd, Int.reduceSub, Int.reduceMul, Int.toNat_natCast, reduceCtorEq, decide_true, decide_false, IntWalk.i64_in, IntWalk.u64_in, IntWalk.u8_in]⟩ ?_
      clear h3 h9 h10 h11 h12 h13 r1 r2 hl0 htk0 hok0 hrow0
      rintro mm a o' nx' ⟨j, hj, rfl, hnx', hkp, o14, h3, h9, h10, h11, h12, h13, h14, h15⟩
      have o9' := (hkp 2 9 (by omega) (by decide)).trans o9
      have o11' := (hkp 4 11 (by omega) (by decide)).trans o11
      by_cases hj5 : j < 5
      · have hg := hw.get (k := i * 5 + j) (by omega)
        have hP := twP_at (n := n) (N := N) (tu := tu) (q := cn + i) (j := j) hj5
        rw [if_neg (by omega), hqi] at hP
        have hE := twE_at (n := n) (N := N) (tu := tu) (q := cn + i) hj5
        rw [hqi] at hE
        have hS := twP_set (n := n) (N := N) (tu := tu) (q := cn + i) hj5
        have hat : (((cn * 5 : Nat) : Int) + 5 * (i : Int) + (j : Int)).toNat = (cn + i) * 5 + j := by omega
        have q1 := cI_get (l := twP n N tu (cn + i) j) (i := j) (s := 1) (by rw [twP_len]; exact hj5)
        rw [hP] at q1
        have hcs := fun v => cI_set (twP n N tu (cn + i) j) j v (by rw [twP_len]; exact hj5)
        have hl14 : (cI (twP n N tu (cn + i) j)).length = 5 := by rw [cI_length, twP_len]
        by_cases hin : (cn + i) * 5 + j < tu.length
        · have q2 := cB_get (l := tu) (i := (cn + i) * 5 + j) (s := 1) hin
          have hin' : ((cn * 5 : Nat) : Int) + 5 * (i : Int) + (j : Int) < tu.length := by omega
          cases ht : tu.getD ((cn + i) * 5 + j) false with
          | true =>
            rw [ht] at q2 hE
            rw [if_pos rfl] at hE
            have hv : N.getD (i * 5 + j) 0 + (n : Int) = ((twE n N tu ((cn + i) * 5 + j) : Nat) : Int) := by omega
            have hcs := hcs (N.getD (i * 5 + j) 0 + (n : Int))
            rw [hv, hS, ← hv] at hcs
            generalize N.getD (i * 5 + j) 0 = x at *
            simp (disch := omega) only [go_sem, ↓IntWalk.iteOmega, IntWalk.toNatUp, Nat.reduceEqDiff, Nat.reduceAdd, Nat.reduceMul, Nat.reduceSub, Nat.reduceLT, Nat.reduceLeDiff, Int.reduceToNat, Int.reduceLT, Int.reduceLE, Int.reduceEq, Int.reduceAdd, Int.reduceSub, Int.reduceMul, Int.toNat_natCast, reduceCtorEq, decide_true, decide_false, IntWalk.i64_in, IntWalk.u64_in, IntWalk.u8_in, h3, h9, h10, h11, h12, h13, h14, h15, o14, hp5, hin', hat, q1, q2, hcs, hl14, nzTw]
            exact ⟨5 - (j + 1), by omega, j + 1, by omega, rfl, by omega, hkp.upd (.inl (by omega)), rfl, rfl⟩
          | false =>
            rw [ht] at q2 hE
            rw [if_neg (by decide)] at hE
            have hsame : twP n N tu (cn + i) (j + 1) = twP n N tu (cn + i) j := by
              rw [← hS]
              refine ext_getD (by simp) fun p hp => ?_
              rw [List.length_set, twP_len] at hp
              rw [getD_set _ _ _ _ _ (by rw [twP_len]; exact hj5)]
              by_cases e : j = p
              · rw [if_pos e, ← e, hP]; omega
              · rw [if_neg e]
            simp (disch := omega) only [go_sem, ↓IntWalk.iteOmega, IntWalk.toNatUp, Nat.reduceEqDiff, Nat.reduceAdd, Nat.reduceMul, Nat.reduceSub, Nat.reduceLT, Nat.reduceLeDiff, Int.reduceToNat, Int.reduceLT, Int.reduceLE, Int.reduceEq, Int.reduceAdd, Int.reduceSub, Int.reduceMul, Int.toNat_natCast, reduceCtorEq, decide_true, decide_false, IntWalk.i64_in, IntWalk.u64_in, IntWalk.u8_in, h3, h9, h10, h11, h12, h13, h14, h15, o14, hp5, hin', hat, q2, nzTw]
            exact ⟨5 - (j + 1), by omega, j + 1, by omega, rfl, by omega, hkp, by rw [hsame], rfl⟩
        · have hin' : ¬ ((cn * 5 : Nat) : Int) + 5 * (i : Int) + (j : Int) < tu.length := by omega
          have ht : tu.getD ((cn + i) * 5 + j) false = false := by rw [List.getD_eq_getElem?_getD, List.getElem?_eq_none (by omega)]; rfl
          rw [ht, if_neg (by decide)] at hE
          have hsame : twP n N tu (cn + i) (j + 1) = twP n N tu (cn + i) j := by
            rw [← hS]
            refine ext_getD (by simp) fun p hp => ?_
            rw [List.length_set, twP_len] at hp
            rw [getD_set _ _ _ _ _ (by rw [twP_len]; exact hj5)]
            by_cases e : j = p
            · rw [if_pos e, ← e, hP]; omega
            · rw [if_neg e]
          simp (disch := omega) only [go_sem, ↓IntWalk.iteOmega, IntWalk.toNatUp, Nat.reduceEqDiff, Nat.reduceAdd, Nat.reduceMul, Nat.reduceSub, Nat.reduceLT, Nat.reduceLeDiff, Int.reduceToNat, Int.reduceLT, Int.reduceLE, Int.reduceEq, Int.reduceAdd, Int.reduceSub, Int.reduceMul, Int.toNat_natCast, reduceCtorEq, decide_true, decide_false, IntWalk.i64_in, IntWalk.u64_in, IntWalk.u8_in, h3, h9, h10, h11, h12, h13, h14, h15, o14, hp5, hin', nzTw]
          exact ⟨5 - (j + 1), by omega, j + 1, by omega, rfl, by omega, hkp, by rw [hsame], rfl⟩
      · have hje : j = 5 := by omega
        subst hje
        rw [twP_end] at o14
        have hl6 : (cI (nL (twR n N tu (cn + i)))).length = 5 := by rw [cI_length, nL_len, twR_len]
        have htk5 : (cI (nL (twR n N tu (cn + i)))).take 5 = cI (nL (twR n N tu (cn + i))) := take_len hl6
        have hok5 := cI_ok (nL (twR n N tu (cn + i)))
        have hvN' := hvN.keep (fun j hj => hkp j 77 hj (by decide)) (show nx ≤ nx' by omega)
        have hvA' := hvA.keep (fun j hj => hkp j 87 hj (by decide)) (show nx ≤ nx' by omega)
        have q2 := cB_get (l := A) (i := i) (s := 1) (by omega)
        obtain ⟨j8, hj8, hap8⟩ := hvN'.app (nx' + 1) 40 1 (cI (nL (twR n N tu (cn + i)))) (by omega) (by rw [hl6]) hok5 (by simp only [maxB]; omega)
        obtain ⟨j9, hj9, hap9⟩ := hvA'.app (nx' + 2) 1 1 [.bool (A.getD i false)] (by omega) rfl rfl (by simp only [maxB]; omega)
        have hRR : cI (nL (twN n N tu (cn + (i + 1)))) = cI (nL (twN n N tu (cn + i))) ++ cI (nL (twR n N tu (cn + i))) := by rw [← Nat.add_assoc, twN_succ, nL_app, cI_app]
        have hAA : cB (twA n A (cn + (i + 1))) = cB (twA n A (cn + i)) ++ [.bool (A.getD i false)] := by rw [← Nat.add_assoc, twA_succ, cB_app, hqi]; rfl
        have hokN := hvN'.ok
        have hokA := hvA'.ok
        have hlR : (cI (nL (twN n N tu (cn + i)))).length = (cn + i) * 5 := by rw [cI_length, nL_len, twN_len]
        have hlAc : (cB (twA n A (cn + i))).length = (cn + i) * 1 := by rw [cB_length, twA_len]; omega
        generalize A.getD i false = z at *
        generalize twR n N tu (cn + i) = R' at *
        simp (disch := first | omega | (intro _; simp only [upd_app, Nat.reduceEqDiff, if_false])) only [go_sem, ↓IntWalk.iteOmega, IntWalk.toNatUp, Nat.reduceEqDiff, Nat.reduceAdd, Nat.reduceMul, Nat.reduceSub, Nat.reduceLT, Nat.reduceLeDiff, Int.reduceToNat, Int.reduceLT, Int.reduceLE, Int.reduceEq, Int.reduceAdd, Int.reduceSub, Int.reduceMul, Int.toNat_natCast, reduceCtorEq, decide_true, decide_false, IntWalk.i64_in, IntWalk.u64_in, IntWalk.u8_in, h3, h9, h10, h11, h12, h13, h14, h15, o9', o11', o14, q2, hl6, htk5, hok5, hap8, hap9, hokN, hokA, nzTw]
        refine ⟨n - (i + 1), by omega, i + 1, _, _, by omega, rfl, by omega, ?_, ?_, rfl, rfl⟩
        · rw [hRR, ← Nat.add_assoc]
          exact HS.grown (m := 1) (by omega) (by simp [upd_app]) hlR (by rw [hl6])
        · rw [hAA, ← Nat.add_assoc]
          exact HS.grown (m := 1) (new := [.bool z]) (by omega) (by simp [upd_app]) hlAc rfl
    · have hie : i = n := by omega
      subst hie
      have hc1 : (c + 1) * i = cn + i := by rw [hcn, Nat.add_mul, Nat.one_mul]
      simp (disch := omega) only [go_sem, ↓IntWalk.iteOmega, IntWalk.toNatUp, Nat.reduceEqDiff, Nat.reduceAdd, Nat.reduceMul, Nat.reduceSub, Nat.reduceLT, Nat.reduceLeDiff, Int.reduceToNat, Int.reduceLT, Int.reduceLE, Int.reduceEq, Int.reduceAdd, Int.reduceSub, Int.reduceMul, Int.toNat_natCast, reduceCtorEq, decide_true, decide_false, IntWalk.i64_in, IntWalk.u64_in, IntWalk.u8_in, h3, h9, h10, h11, h12, h13]
      exact ⟨2 - (c + 1), by omega, c + 1, vN, vA, by omega, rfl, by omega, by rw [hc1]; exact hvN.keep (fun _ _ => rfl) (by omega), by rw [hc1]; exact hvA.keep (fun _ _ => rfl) (by omega), o9, o11, rfl⟩
  · have hce : c = 2 := by omega
    subst hce
    have hw2 := tw_wf hw (by omega) tu
    have he := tw_eqv hw (by omega) tu
    obtain ⟨e1, e2⟩ := min_one hw.okD hw2.okD he
    have xf := XM1_far hw hw2
    rw [(far_none hw.okD hw2.okD).2 he] at xf
    have xf : XM1 33 [dV n N A, dV (2 * n) (nL (twN n N tu (2 * n))) (twA n A (2 * n))] = some (.tup [.sl 0 [], .bool false]) := xf
    have x1 := XM1_min hw
    have x2 := XM1_min hw2
    rw [← e1, ← e2] at x2
    have hm := min_wf hw
    have x3 := XM1_same hm hm
    rw [decide_eq_true ⟨rfl, rfl⟩] at x3
    generalize minN N A = M2 at *
    generalize minA N A = B2 at *
    have v1 : ∀ o'' : Ob, (∀ i, o'' (i, 77) = o (i, 77)) → view o'' 1011 vN = .sl (2 * n) (cI (nL (twN n N tu (2 * n)))) := fun o'' h => by rw [(hvN.keep (fun i _ => h i) (Nat.le_refl _)).view 1010, view_cI]
    have v2 : ∀ o'' : Ob, (∀ i, o'' (i, 87) = o (i, 87)) → view o'' 1011 vA = .sl (2 * n) (cB (twA n A (2 * n))) := fun o'' h => by rw [(hvA.keep (fun i _ => h i) (Nat.le_refl _)).view 1010, view_cB]
    have v3 := fun i j h => hvN.nin 1010 (tags_cI o 1010 (nL (twN n N tu (2 * n)))) (i := i) (j := j) h
    have v4 := fun i j h => hvA.nin 1010 (tags_cB o 1010 (twA n A (2 * n))) (i := i) (j := j) h
    have v5 : ((viewTags o 1011 vN).all fun t => nin t [(2, 9)]) = true := List.all_eq_true.2 fun t ht => by
      have hj := hvN.tags 1010 (tags_cI o 1010 _) t ht
      obtain ⟨p, q⟩ := t
      exact nin_slot (D := 9) (fun s hs => by rw [List.mem_singleton.1 hs]) (by dsimp only at hj; omega)
    have v6 : ((viewTags o 1011 vA).all fun t => nin t [(2, 9)]) = true := List.all_eq_true.2 fun t ht => by
      have hj := hvA.tags 1010 (tags_cB o 1010 _) t ht
      obtain ⟨p, q⟩ := t
      exact nin_slot (D := 9) (fun s hs => by rw [List.mem_singleton.1 hs]) (by dsimp only at hj; omega)
    simp (disch := first | omega | (intro _; simp (disch := omega) only [go_sem, ↓IntWalk.iteOmega, IntWalk.toNatUp, Nat.reduceEqDiff, Nat.reduceAdd, Nat.reduceMul, Nat.reduceSub, Nat.reduceLT, Nat.reduceLeDiff, Int.reduceToNat, Int.reduceLT, Int.reduceLE, Int.reduceEq, Int.reduceAdd, Int.reduceSub, Int.reduceMul, Int.toNat_natCast, reduceCtorEq, decide_true, decide_false, IntWalk.i64_in, IntWalk.u64_in, IntWalk.u8_in, h3, h9, h10, h11, h12, o9, o11, v5, v6, Bool.and_true, xf, x1, x2, x3, v1, v2, v3, v4, view_sealed, tags_sealed, nin_app, nzTw, Bool.not_false, List.append_nil])) only [go_sem, ↓IntWalk.iteOmega, IntWalk.toNatUp, Nat.reduceEqDiff, Nat.reduceAdd, Nat.reduceMul, Nat.reduceSub, Nat.reduceLT, Nat.reduceLeDiff, Int.reduceToNat, Int.reduceLT, Int.reduceLE, Int.reduceEq, Int.reduceAdd, Int.reduceSub, Int.reduceMul, Int.toNat_natCast, reduceCtorEq, decide_true, decide_false, IntWalk.i64_in, IntWalk.u64_in, IntWalk.u8_in, h3, h9, h10, h11, h12, o9, o11, v5, v6, Bool.and_true, xf, x1, x2, x3, v1, v2, v3, v4, view_sealed, tags_sealed, nin_app, nzTw, Bool.not_false, List.append_nil]
theorem bools_of {P : Program} {d : Nat} {t : TypeId} (hu : P.underlying t = some .bool) : ∀ parts : List (List AV), (∀ p ∈ parts, Shaped P d t p) → ∃ ns : List Bool, parts.length = ns.length ∧ parts.flatten = cB ns
  | [], _ => ⟨[], rfl, rfl⟩
  | p :: parts, h => by
    obtain ⟨n, rfl⟩ : ∃ n, p = [.bool n] := by
      have h1 := h p (List.mem_cons_self ..)
      cases d with
      | zero => exact h1.elim
      | succ d =>
        unfold Shaped at h1
        rw [hu] at h1
        exact h1
    obtain ⟨ns, h1, h2⟩ := bools_of hu parts (fun q hq => h q (List.mem_cons_of_mem _ hq))
    exact ⟨n :: ns, by simp [h1], by simp [cB, h2]⟩
theorem arg_bools {P : Program} {t e : TypeId} {x : AV} (hu : P.underlying t = some (.slice e)) (he : P.underlying e = some .bool) (h : ArgOf P t x) : ∃ ns : List Bool, x = slB ns ∧ ns.length ≤ maxLen := by
  unfold ArgOf at h
  rw [hu] at h
  obtain ⟨d, h⟩ := h
  cases d with
  | zero => exact h.elim
  | succ d =>
    unfold Shaped at h
    rw [hu] at h
    obtain ⟨parts, e1, hle, h2⟩ := h
    injection e1 with e1 _
    obtain ⟨ns, h3, h4⟩ := bools_of he parts h2
    exact ⟨ns, by rw [e1, h3, h4], by omega⟩
end Go.Proofs.YtpmjpogcaglphaaDoor.A

namespace Go.Proofs.YtpmjpogcaglphaaDoor
open Go Go.Proofs.YtpmjpogcaglphaaDoor.A
set_option maxRecDepth 100000 in
theorem miniTwice_lifted (os : Os) (started : os.Started) (H : Type) (enc : TypeId × Value → H) :
    ReturnsInHanded {} Tryd.checked os 11 .any (fun w args => (Rows.miniTwiceSpec.pre enc Tryd.prog Tryd.f11 [] false w args ∧ laidMetH Tryd.prog laidL w) ∧ sizedMet enc Tryd.prog Tryd.f11 (OpenSpec.ofChange Rows.miniTwiceSpec) false w args) (Rows.miniTwiceSpec.post enc Tryd.prog Tryd.f11 false true false false) :=
  law_laid (C := Tryd.checked) (L := laidL) laidL_noh Tryd.own started (by kernel_rfl) Tryd.func11
    (ChangeSpec.witness_at (enc := enc) (C := Tryd.checked) (os := os) (X := fun w _ => laidMetH Tryd.prog laidL w) false (laidWorld os) #[.int .i64 0, .slice none 0 0, .int .i64 0, .slice none 0 0] 8 rfl (by kernel_rfl) (by kernel_rfl) (by kernel_rfl) (by kernel_rfl) (by kernel_rfl) (laidWorld_met os _))
    Tryd.laidOut (ks := [3, 22, 25, 4]) (by kernel_rfl) (by kernel_rfl) (tb := 4) (by kernel_rfl) (by kernel_rfl) rfl
    (fun ds hds => by
      match ds, hds with
      | [_, _, _, _], _ => exact ⟨rfl, rfl, rfl⟩)
    laid_gl (fun xs hxs => by
      rw [show Tryd.f11.params.toList = [3, 22, 3, 25] from rfl] at hxs
      match xs, hxs with
      | [x1, x2, x3, x4], ⟨h1, h2, h3, h4, _⟩ =>
        obtain ⟨n1, rfl, _⟩ := arg_int (k := .i64) (by kernel_rfl) h1
        obtain ⟨n2, rfl, _⟩ := arg_ints (e := 3) (by kernel_rfl) (by kernel_rfl) h2
        obtain ⟨n3, rfl, _⟩ := arg_int (k := .i64) (by kernel_rfl) h3
        obtain ⟨n4, rfl, _⟩ := arg_bools (e := 4) (by kernel_rfl) (by kernel_rfl) h4
        exact mtw_ok n1 n2 n3 n4)
theorem miniTwice_row_holds : Rows.MiniTwiceSaid :=
  OpenClaim.holds_of_wide 11 Tryd.f11 rfl rfl rfl rfl rfl rfl rfl ⟨rfl, rfl, rfl, rfl, rfl⟩ rfl rfl rfl rfl rfl (by kernel_rfl) Tryd.func11 (by kernel_rfl)
    (of_decide_eq_true (by kernel_rfl)) (by unfold Func.isWrapper; first | (rw [if_pos (by decide +kernel)]; kernel_rfl) | (rw [if_neg (by decide +kernel)]; exact ⟨rfl, rfl⟩))
    (fun os started H enc _ => miniTwice_lifted os started H enc)
theorem miniTwice_card_holds : Rows.MiniTwiceCardSaid :=
  Claim7.holds_tied_plain_at .later [] [.data, .data, .data] true (true, "102ca1f5da5c52998f5edfe949f841430b613cce0079492f5bc01c543bb3a885") false
    miniTwice_row_holds (fun _ h => by cases h) (by kernel_rfl) (fun _ h => by cases h) miniTwice_row_tie rfl ⟨rfl, rfl⟩ (by kernel_rfl) rfl
    (fun f fn hf hfn => by
      obtain rfl : f = 11 := (Option.some.inj ((show Tryd.prog.funcNamed "milestone/milestonelaw8.MiniTwice" = some 11 by kernel_rfl).symm.trans hf)).symm
      obtain rfl : fn = Tryd.f11 := (Option.some.inj (Tryd.func11.symm.trans hfn)).symm
      refine ⟨by kernel_rfl, fun j t ht => ?_⟩
      exact (wants_all (by kernel_rfl : (Tryd.f11.params.toList.all fun t => !Tryd.prog.wantsStandIn t) = true) ht))
    (by kernel_rfl)
end Go.Proofs.YtpmjpogcaglphaaDoor
