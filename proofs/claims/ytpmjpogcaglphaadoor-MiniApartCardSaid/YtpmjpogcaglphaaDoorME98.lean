/- The program's parting: a state's kind, whether two are one, where one stands among others. -/
import Derived.Test.YtpmjpogcaglphaaDoorRows
import Derived.ChangeVars
import Derived.JoinedOf
import Derived.LaidLaws
import Derived.LaidHandle
import Derived.RowKit
import Derived.Test.YtpmjpogcaglphaaDoorTie
import Derived.Test.YtpmjpogcaglphaaDoorCards
import Derived.Shelf.Strings.Search1
import Derived.Test.YtpmjpogcaglphaaDoorME91
import Derived.Test.YtpmjpogcaglphaaDoorME92
import Derived.Test.YtpmjpogcaglphaaDoorME93
import Derived.Test.YtpmjpogcaglphaaDoorME94
import Derived.Test.YtpmjpogcaglphaaDoorME95
import Derived.Test.YtpmjpogcaglphaaDoorME96
import Derived.Test.YtpmjpogcaglphaaDoorME97
set_option linter.unusedVariables false
set_option linter.unusedSimpArgs false
set_option linter.unnecessarySimpa false
namespace Go.Proofs.YtpmjpogcaglphaaDoor.A
open Go
set_option maxRecDepth 20000
/-! ### whether two rows of numbers are one -/
theorem eqLeafs_ints : ∀ (x y : List Int), x.length = y.length → eqLeafs (List.replicate x.length .int) (cI x) (cI y) = some (decide (x = y))
  | [], [], _ => rfl
  | [], _ :: _, h => by simp at h
  | _ :: _, [], h => by simp at h
  | a :: x, b :: y, h => by
    have ih := eqLeafs_ints x y (by simpa using h)
    show (match eqLeaf .int (.int .i64 a) (.int .i64 b), eqLeafs (List.replicate x.length .int) (cI x) (cI y) with | some a, some b => some (a && b) | _, _ => none) = _
    rw [ih]
    simp only [eqLeaf, if_true]
    by_cases h1 : a = b <;> by_cases h2 : x = y <;> simp [h1, h2]
theorem aggE (P : Program) (t : TypeId) (x y : List AV) : aBin P .eql t (.agg x) (.agg y) = (eqLeaves P t).bind fun l => (eqLeafs l x y).map .bool := rfl
theorem kind_eql {x y : List Int} (hx : x.length = 6) (hy : y.length = 6) : aBin Tryd.prog .eql 110 (.agg (cI x)) (.agg (cI y)) = some (.bool (decide (x = y))) := by
  rw [aggE, T110lf]
  have := eqLeafs_ints x y (by omega)
  rw [hx] at this
  show (eqLeafs (List.replicate 6 .int) (cI x) (cI y)).map AV.bool = _
  rw [this]
  rfl
/-! ### a state's kind -/
def kindT (N : List Int) (c : List Nat) (s m : Nat) : List Nat := c.getD s 0 :: (List.range m).map fun j => c.getD (N.getD (s * 5 + j) 0).toNat 0
theorem kindT_len (N c s m) : (kindT N c s m).length = m + 1 := by simp [kindT]
theorem kindT_succ (N c s m) : kindT N c s (m + 1) = kindT N c s m ++ [c.getD (N.getD (s * 5 + m) 0).toNat 0] := by
  simp [kindT, List.range_succ]
theorem lookKd (X) : lookedAt (EX md0 X) (fun _ => none) 2 Tryd.f60 = true := by kernel_rfl
theorem kind_ok {n : Nat} {N : List Int} {A : List Bool} (hw : WfD n N A) {c : List Nat} (hc : c.length = n) {s : Nat} (hs : s < n) : Ok Tryd.prog 60 [.fptr [.sl n (cI N), .sl n (cB A), .sl n (cI (nL c))], .int .i64 s] (.agg (cI (nL (kindM N c s)))) := by
  refine ok_of_WP (E := EX md0 (fun _ _ => none)) (cr := noR) (tab_nil _) (noR_ok _) mixed (k := 7) Tryd.func60 (lookKd _) rfl ?_
  have hn := hw.sz
  have hN := hw.l
  have h1 := nL_at (l := c) (i := s) (s := 1) (by omega)
  obtain ⟨row, hrw', hrow, htl, hok, htt, hl5⟩ := row_facts hN hs
  simp only [Tryd.f60, Option.getD_some]
  simp (disch := omega) only [go_sem, ↓IntWalk.iteOmega, IntWalk.toNatUp, Nat.reduceEqDiff, Nat.reduceAdd, Nat.reduceMul, Nat.reduceSub, Nat.reduceLT, Nat.reduceLeDiff, Int.reduceToNat, Int.reduceLT, Int.reduceLE, Int.reduceEq, Int.reduceAdd, Int.reduceSub, Int.reduceMul, Int.toNat_natCast, reduceCtorEq, decide_true, decide_false, IntWalk.i64_in, IntWalk.u64_in, IntWalk.u8_in, h1, hl5, hrw', htl, hok, htt]
  refine WP_loop (fun m a o nx => ∃ j : Nat, j ≤ 5 ∧ m = 5 - j ∧ 2 ≤ nx ∧ a 0 = .fptr [.sl n (cI N), .sl n (cB A), .sl n (cI (nL c))] ∧ a 4 = .ptr (0, 4) (0, 4) 0 ∧ a 5 = .ptr (1, 5) (1, 5) 0 ∧ a 23 = .agg row ∧ a 24 = .int .i64 j ∧ o (0, 4) = some (.row ⟨110, 1, (0, 4), false, true, cI [0, 0, 0, 0, 0, 0]⟩) ∧ o (1, 5) = some (.row ⟨110, 1, (1, 5), false, true, cI (nL (kindT N c s j) ++ List.replicate (6 - (j + 1)) 0)⟩)) 5 (by omega) ⟨0, by omega, by omega, by omega, by simp (disch := omega) only [go_sem, ↓IntWalk.iteOmega, IntWalk.toNatUp, Nat.reduceEqDiff, Nat.reduceAdd, Nat.reduceMul, Nat.reduceSub, Nat.reduceLT, Nat.reduceLeDiff, Int.reduceToNat, Int.reduceLT, Int.reduceLE, Int.reduceEq, Int.reduceAdd, Int.reduceSub, Int.reduceMul, Int.toNat_natCast, reduceCtorEq, decide_true, decide_false, IntWalk.i64_in, IntWalk.u64_in, IntWalk.u8_in], by simp (disch := omega) only [go_sem, ↓IntWalk.iteOmega, IntWalk.toNatUp, Nat.reduceEqDiff, Nat.reduceAdd, Nat.reduceMul, Nat.reduceSub, Nat.reduceLT, Nat.reduceLeDiff, Int.reduceToNat, Int.reduceLT, Int.reduceLE, Int.reduceEq, Int.reduceAdd, Int.reduceSub, Int.reduceMul, Int.toNat_natCast, reduceCtorEq, decide_true, decide_false, IntWalk.i64_in, IntWalk.u64_in, IntWalk.u8_in], by simp (disch := omega) only [go_sem, ↓IntWalk.iteOmega, IntWalk.toNatUp, Nat.reduceEqDiff, Nat.reduceAdd, Nat.reduceMul, Nat.reduceSub, Nat.reduceLT, Nat.reduceLeDiff, Int.reduceToNat, Int.reduceLT, Int.reduceLE, Int.reduceEq, Int.reduceAdd, Int.reduceSub, Int.reduceMul, Int.toNat_natCast, reduceCtorEq, decide_true, decide_false, IntWalk.i64_in, IntWalk.u64_in, IntWalk.u8_in], by simp (disch := omega) only [go_sem, ↓IntWalk.iteOmega, IntWalk.toNatUp, Nat.reduceEqDiff, Nat.reduceAdd, Nat.reduceMul, Nat.reduceSub, Nat.reduceLT, Nat.reduceLeDiff, Int.reduceToNat, Int.reduceLT, Int.reduceLE, Int.reduceEq, Int.reduceAdd, Int.reduceSub, Int.reduceMul, Int.toNat_natCast, reduceCtorEq, decide_true, decide_false, IntWalk.i64_in, IntWalk.u64_in, IntWalk.u8_in], by simp (disch := omega) only [go_sem, ↓IntWalk.iteOmega, IntWalk.toNatUp, Nat.reduceEqDiff, Nat.reduceAdd, Nat.reduceMul, Nat.reduceSub, Nat.reduceLT, Nat.reduceLeDiff, Int.reduceToNat, Int.reduceLT, Int.reduceLE, Int.reduceEq, Int.reduceAdd, Int.reduceSub, Int.reduceMul, Int.toNat_natCast, reduceCtorEq, decide_true, decide_false, IntWalk.i64_in, IntWalk.u64_in, IntWalk.u8_in], by simp [upd_app, cI], by simp [upd_app, kindT, nL, cI]⟩ ?_
  rintro m a o nx ⟨j, hj, rfl, hnx, ha0, ha4, ha5, ha23, ha24, o4, o5⟩
  by_cases hj5 : j < 5
  · have hat := hrow j hj5
    have e1 := hw.get (k := s * 5 + j) (by omega)
    have hsucc := kindT_succ N c s j
    obtain ⟨x, hx⟩ : ∃ x, x = N.getD (s * 5 + j) 0 := ⟨_, rfl⟩
    rw [← hx] at hat e1 hsucc
    have c1 := nL_at (l := c) (i := x.toNat) (s := 1) (by omega)
    have hset := set_row (kindT N c s j) 6 (j + 1) (c.getD x.toNat 0) (kindT_len N c s j) (by omega)
    rw [← hsucc] at hset
    have hj1 : (1 + (j : Int)).toNat = j + 1 := by omega
    have hl6 : (cI (nL (kindT N c s j) ++ List.replicate (6 - (j + 1)) 0)).length = 6 := by rw [cI_length, List.length_append, nL_len, List.length_replicate, kindT_len]; omega
    simp (disch := omega) only [go_sem, ↓IntWalk.iteOmega, IntWalk.toNatUp, Nat.reduceEqDiff, Nat.reduceAdd, Nat.reduceMul, Nat.reduceSub, Nat.reduceLT, Nat.reduceLeDiff, Int.reduceToNat, Int.reduceLT, Int.reduceLE, Int.reduceEq, Int.reduceAdd, Int.reduceSub, Int.reduceMul, Int.toNat_natCast, reduceCtorEq, decide_true, decide_false, IntWalk.i64_in, IntWalk.u64_in, IntWalk.u8_in, ha0, ha4, ha5, ha23, ha24, o4, o5, hat, c1, hset, hj1, hl6]
    exact ⟨_, by omega, j + 1, by omega, rfl, rfl, rfl⟩
  · have hj' : j = 5 := by omega
    subst hj'
    have hl6 : (cI (nL (kindT N c s 5))).length = 6 := by rw [cI_length, nL_len, kindT_len]
    have htk : (cI (nL (kindT N c s 5))).take 6 = cI (nL (kindT N c s 5)) := take_len hl6
    have hok6 := cI_ok (nL (kindT N c s 5))
    have hr : kindM N c s = kindT N c s 5 := rfl
    rw [hr]
    rw [show 6 - (5 + 1) = 0 from rfl, List.replicate_zero, List.append_nil] at o5
    generalize kindT N c s 5 = K at *
    simp (disch := omega) only [go_sem, ↓IntWalk.iteOmega, IntWalk.toNatUp, Nat.reduceEqDiff, Nat.reduceAdd, Nat.reduceMul, Nat.reduceSub, Nat.reduceLT, Nat.reduceLeDiff, Int.reduceToNat, Int.reduceLT, Int.reduceLE, Int.reduceEq, Int.reduceAdd, Int.reduceSub, Int.reduceMul, Int.toNat_natCast, reduceCtorEq, decide_true, decide_false, IntWalk.i64_in, IntWalk.u64_in, IntWalk.u8_in, ha0, ha4, ha5, ha23, ha24, o4, o5, hl6, htk, hok6]
    rw [show (cI [0, 0, 0, 0, 0, 0]).drop 6 = [] from rfl, List.append_nil, htk, view_cI]
/-! ### whether a kind is this one -/
theorem lookF1 (X) : lookedAt (EX md0 X) (fun _ => none) 2 Tryd.f62 = true := by kernel_rfl
theorem fin1_ok {x y : List Int} (hx : x.length = 6) (hy : y.length = 6) : Ok Tryd.prog 62 [.agg (cI x), .fptr (cI y)] (.bool (decide (x = y))) := by
  refine ok_of_WP (E := EX md0 (fun _ _ => none)) (cr := noR) (tab_nil _) (noR_ok _) mixed (k := 0) Tryd.func62 (lookF1 _) rfl ?_
  have he := kind_eql hx hy
  have h1 : (cI x).length = 6 := by rw [cI_length, hx]
  have h2 : (cI y).length = 6 := by rw [cI_length, hy]
  have h3 : (cI x).take 6 = cI x := take_len h1
  have h4 : (cI y).take 6 = cI y := take_len h2
  have h5 := cI_ok x
  simp only [Tryd.f62, Option.getD_some]
  simp (disch := omega) only [go_sem, ↓IntWalk.iteOmega, IntWalk.toNatUp, Nat.reduceEqDiff, Nat.reduceAdd, Nat.reduceMul, Nat.reduceSub, Nat.reduceLT, Nat.reduceLeDiff, Int.reduceToNat, Int.reduceLT, Int.reduceLE, Int.reduceEq, Int.reduceAdd, Int.reduceSub, Int.reduceMul, Int.toNat_natCast, reduceCtorEq, decide_true, decide_false, IntWalk.i64_in, IntWalk.u64_in, IntWalk.u8_in, he, h1, h2, h3, h4, h5]
/-! ### where a kind stands among others -/
def kC (K : List (List Int)) : List AV := K.flatMap cI
theorem kC_len {K : List (List Int)} (h : ∀ x ∈ K, x.length = 6) : (kC K).length = K.length * 6 := by
  induction K with
  | nil => rfl
  | cons x K ih =>
    have := ih (fun y hy => h y (List.mem_cons_of_mem _ hy))
    have hx := h x (List.mem_cons_self ..)
    simp only [kC, List.flatMap_cons, List.length_append, cI_length, List.length_cons] at this ⊢
    omega
theorem kC_app (x y) : kC (x ++ y) = kC x ++ kC y := by simp [kC]
theorem kC_ok (K) : (kC K).all cellOk = true := by
  induction K with
  | nil => rfl
  | cons x K ih => rw [kC, List.flatMap_cons, List.all_append, cI_ok]; exact ih
theorem view_kC (o d K) : (kC K).map (view o d) = kC K := by
  induction K with
  | nil => rfl
  | cons x K ih =>
    have ih : (K.flatMap cI).map (view o d) = K.flatMap cI := ih
    rw [kC, List.flatMap_cons, List.map_append, view_cI, ih]
theorem kC_at {K : List (List Int)} (h : ∀ x ∈ K, x.length = 6) {i : Nat} (hi : i < K.length) : ((kC K).drop (i * 6)).take 6 = cI (K.getD i []) ∧ 6 ≤ ((kC K).drop (i * 6)).length := by
  have hl := kC_len h
  refine ⟨?_, by rw [List.length_drop, hl]; omega⟩
  induction K generalizing i with
  | nil => simp at hi
  | cons x K ih =>
    have hx := h x (List.mem_cons_self ..)
    have hK := fun y hy => h y (List.mem_cons_of_mem _ hy)
    cases i with
    | zero =>
      rw [kC, List.flatMap_cons, Nat.zero_mul, List.drop_zero, List.take_append_of_le_length (by rw [cI_length, hx]; exact Nat.le_refl _), take_len (by rw [cI_length, hx])]
      rfl
    | succ i =>
      have hi : i < K.length := by simpa using hi
      have := ih hK hi (kC_len hK)
      rw [kC, List.flatMap_cons, show (i + 1) * 6 = (cI x).length + i * 6 by rw [cI_length, hx]; omega, List.drop_append]
      rw [List.drop_eq_nil_of_le (by omega), List.nil_append, Nat.add_sub_cancel_left]
      exact this
theorem kC_inj : ∀ {K L : List (List Int)}, (∀ x ∈ K, x.length = 6) → (∀ x ∈ L, x.length = 6) → kC K = kC L → K = L
  | [], [], _, _, _ => rfl
  | [], y :: L, _, h, e => by
    have := congrArg List.length e
    rw [kC_len h] at this
    simp [kC] at this
  | x :: K, [], h, _, e => by
    have := congrArg List.length e
    rw [kC_len h] at this
    simp [kC] at this
  | x :: K, y :: L, h, h', e => by
    rw [kC, kC, List.flatMap_cons, List.flatMap_cons] at e
    have hl : (cI x).length = (cI y).length := by rw [cI_length, cI_length, h x (List.mem_cons_self ..), h' y (List.mem_cons_self ..)]
    obtain ⟨e1, e2⟩ := List.append_inj e hl
    rw [cI_inj e1, kC_inj (fun z hz => h z (List.mem_cons_of_mem _ hz)) (fun z hz => h' z (List.mem_cons_of_mem _ hz)) e2]
def idxI (K : List (List Int)) (y : List Int) : Int := match K.findIdx? (fun x => x == y) with
  | some k => (k : Int)
  | none => -1
def RF1 (args : List AV) (r : AV) : Prop := ∃ x y : List Int, x.length = 6 ∧ y.length = 6 ∧ args = [.agg (cI x), .fptr (cI y)] ∧ r = .bool (decide (x = y))
theorem RF1_fn : Fun1 RF1 := by
  rintro args r r' ⟨x, y, _, _, rfl, rfl⟩ ⟨x', y', _, _, h, rfl⟩
  simp only [List.cons.injEq, AV.agg.injEq, AV.fptr.injEq, and_true] at h
  rw [cI_inj h.1, cI_inj h.2]
theorem RF1_ok (args r) (h : RF1 args r) : Ok Tryd.prog 62 args r := by obtain ⟨x, y, h1, h2, rfl, rfl⟩ := h; exact fin1_ok h1 h2
noncomputable def XF1 : FuncId → List AV → Option AV := tabLook [(62, tRel RF1)]
theorem XF1_ok : CPSound Tryd.prog XF1 := tab_cons (tab_nil _) (tRel_ok RF1_ok)
theorem XF1_eq {x y : List Int} (hx : x.length = 6) (hy : y.length = 6) : XF1 62 [.agg (cI x), .fptr (cI y)] = some (.bool (decide (x = y))) := tRel_eq (R := RF1) RF1_fn ⟨_, _, hx, hy, rfl, rfl⟩
abbrev isFn (y : List Int) : AV := .fn (.func 62) [] [.fptr (cI y)]
theorem lookIF : lookedAt (EX md0 XF1) (fun _ => none) 2 Tryd.f61 = true := by kernel_rfl
theorem idxf_ok {K : List (List Int)} (hK : ∀ x ∈ K, x.length = 6) (hl : K.length ≤ 100000) {y : List Int} (hy : y.length = 6) : Ok Tryd.prog 61 [.sl K.length (kC K), isFn y] (.int .i64 (idxI K y)) := by
  refine ok_of_WP (E := EX md0 XF1) (cr := noR) XF1_ok (noR_ok _) mixed (k := K.length + 1) Tryd.func61 lookIF rfl ?_
  simp only [Tryd.f61, Option.getD_some]
  simp (disch := omega) only [go_sem, ↓IntWalk.iteOmega, IntWalk.toNatUp, Nat.reduceEqDiff, Nat.reduceAdd, Nat.reduceMul, Nat.reduceSub, Nat.reduceLT, Nat.reduceLeDiff, Int.reduceToNat, Int.reduceLT, Int.reduceLE, Int.reduceEq, Int.reduceAdd, Int.reduceSub, Int.reduceMul, Int.toNat_natCast, reduceCtorEq, decide_true, decide_false, IntWalk.i64_in, IntWalk.u64_in, IntWalk.u8_in]
  refine WP_loop (fun m a o nx => ∃ i : Nat, i ≤ K.length ∧ m = K.length - i ∧ (∀ q, q < i → K.getD q [] ≠ y) ∧ a 0 = .sl K.length (kC K) ∧ a 1 = isFn y ∧ a 7 = .int .i64 K.length ∧ a 8 = .int .i64 i) K.length (by omega) ⟨0, by omega, by omega, fun q hq => by omega, by simp (disch := omega) only [go_sem, ↓IntWalk.iteOmega, IntWalk.toNatUp, Nat.reduceEqDiff, Nat.reduceAdd, Nat.reduceMul, Nat.reduceSub, Nat.reduceLT, Nat.reduceLeDiff, Int.reduceToNat, Int.reduceLT, Int.reduceLE, Int.reduceEq, Int.reduceAdd, Int.reduceSub, Int.reduceMul, Int.toNat_natCast, reduceCtorEq, decide_true, decide_false, IntWalk.i64_in, IntWalk.u64_in, IntWalk.u8_in], by simp (disch := omega) only [go_sem, ↓IntWalk.iteOmega, IntWalk.toNatUp, Nat.reduceEqDiff, Nat.reduceAdd, Nat.reduceMul, Nat.reduceSub, Nat.reduceLT, Nat.reduceLeDiff, Int.reduceToNat, Int.reduceLT, Int.reduceLE, Int.reduceEq, Int.reduceAdd, Int.reduceSub, Int.reduceMul, Int.toNat_natCast, reduceCtorEq, decide_true, decide_false, IntWalk.i64_in, IntWalk.u64_in, IntWalk.u8_in], by simp (disch := omega) only [go_sem, ↓IntWalk.iteOmega, IntWalk.toNatUp, Nat.reduceEqDiff, Nat.reduceAdd, Nat.reduceMul, Nat.reduceSub, Nat.reduceLT, Nat.reduceLeDiff, Int.reduceToNat, Int.reduceLT, Int.reduceLE, Int.reduceEq, Int.reduceAdd, Int.reduceSub, Int.reduceMul, Int.toNat_natCast, reduceCtorEq, decide_true, decide_false, IntWalk.i64_in, IntWalk.u64_in, IntWalk.u8_in], by simp (disch := omega) only [go_sem, ↓IntWalk.iteOmega, IntWalk.toNatUp, Nat.reduceEqDiff, Nat.reduceAdd, Nat.reduceMul, Nat.reduceSub, Nat.reduceLT, Nat.reduceLeDiff, Int.reduceToNat, Int.reduceLT, Int.reduceLE, Int.reduceEq, Int.reduceAdd, Int.reduceSub, Int.reduceMul, Int.toNat_natCast, reduceCtorEq, decide_true, decide_false, IntWalk.i64_in, IntWalk.u64_in, IntWalk.u8_in]⟩ ?_
  rintro m a o nx ⟨i, hi, rfl, hno, ha0, ha1, ha7, ha8⟩
  by_cases hlt : i < K.length
  · obtain ⟨h1, h2⟩ := kC_at hK hlt
    have hxl : (K.getD i []).length = 6 := by
      rw [List.getD_eq_getElem?_getD, List.getElem?_eq_getElem hlt]
      exact hK _ (List.getElem_mem ..)
    have hf := XF1_eq hxl hy
    have hok := cI_ok (K.getD i [])
    have hl6 : (cI (K.getD i [])).length = 6 := by rw [cI_length, hxl]
    obtain ⟨z, hz⟩ : ∃ z, z = K.getD i [] := ⟨_, rfl⟩
    rw [← hz] at h1 hf hok hl6
    by_cases he : z = y
    · have hidx : idxI K y = i := by
        unfold idxI
        have : K.findIdx? (fun x => x == y) = some i := by
          rw [List.findIdx?_eq_some_iff_getElem]
          refine ⟨hlt, ?_, fun q hq => ?_⟩
          · rw [hz] at he
            simpa [List.getD, hlt] using he
          · have := hno q hq
            simpa [List.getD, show q < K.length by omega] using this
        rw [this]
      rw [decide_eq_true he] at hf
      rw [hidx]
      simp (disch := omega) only [go_sem, ↓IntWalk.iteOmega, IntWalk.toNatUp, Nat.reduceEqDiff, Nat.reduceAdd, Nat.reduceMul, Nat.reduceSub, Nat.reduceLT, Nat.reduceLeDiff, Int.reduceToNat, Int.reduceLT, Int.reduceLE, Int.reduceEq, Int.reduceAdd, Int.reduceSub, Int.reduceMul, Int.toNat_natCast, reduceCtorEq, decide_true, decide_false, IntWalk.i64_in, IntWalk.u64_in, IntWalk.u8_in, ha0, ha1, ha7, ha8, h1, h2, hf, hok, hl6]
    · rw [decide_eq_false he] at hf
      have hno' : ∀ q, q < i + 1 → K.getD q [] ≠ y := fun q hq => by
        by_cases hqi : q = i
        · rw [hqi, ← hz]; exact he
        · exact hno q (by omega)
      simp (disch := omega) only [go_sem, ↓IntWalk.iteOmega, IntWalk.toNatUp, Nat.reduceEqDiff, Nat.reduceAdd, Nat.reduceMul, Nat.reduceSub, Nat.reduceLT, Nat.reduceLeDiff, Int.reduceToNat, Int.reduceLT, Int.reduceLE, Int.reduceEq, Int.reduceAdd, Int.reduceSub, Int.reduceMul, Int.toNat_natCast, reduceCtorEq, decide_true, decide_false, IntWalk.i64_in, IntWalk.u64_in, IntWalk.u8_in, ha0, ha1, ha7, ha8, h1, h2, hf, hok, hl6]
      exact ⟨_, by omega, i + 1, by omega, rfl, hno', rfl⟩
  · have hidx : idxI K y = -1 := by
      unfold idxI
      have : K.findIdx? (fun x => x == y) = none := by
        rw [List.findIdx?_eq_none_iff]
        intro x hx
        obtain ⟨q, hq, rfl⟩ := List.getElem_of_mem hx
        have := hno q (by omega)
        simpa [List.getD, hq] using this
      rw [this]
    rw [hidx]
    simp (disch := omega) only [go_sem, ↓IntWalk.iteOmega, IntWalk.toNatUp, Nat.reduceEqDiff, Nat.reduceAdd, Nat.reduceMul, Nat.reduceSub, Nat.reduceLT, Nat.reduceLeDiff, Int.reduceToNat, Int.reduceLT, Int.reduceLE, Int.reduceEq, Int.reduceAdd, Int.reduceSub, Int.reduceMul, Int.toNat_natCast, reduceCtorEq, decide_true, decide_false, IntWalk.i64_in, IntWalk.u64_in, IntWalk.u8_in, ha0, ha1, ha7, ha8]
end Go.Proofs.YtpmjpogcaglphaaDoor.A
/- The program's parting: finer, on what Minimize keeps. -/
namespace Go.Proofs.YtpmjpogcaglphaaDoor.A
open Go
set_option maxRecDepth 20000
def kL (N : List Int) (c : List Nat) (F : List Nat) : List (List Int) := F.map fun f => nL (kindM N c f)
theorem kindM_len (N c s) : (kindM N c s).length = 6 := by simp [kindM]
theorem kL_six (N c F) : ∀ x ∈ kL N c F, x.length = 6 := fun x hx => by
  obtain ⟨f, _, rfl⟩ := List.mem_map.1 hx
  rw [nL_len, kindM_len]
theorem flats_cI (l : List Int) : flat.flats (cI l) = true := by
  induction l with
  | nil => rfl
  | cons x l ih =>
    show (flat (.int .i64 x) && flat.flats (cI l)) = true
    rw [ih]; rfl
theorem idx_fin (N c F) (i : Nat) : idxI (kL N c F) (nL (kindM N c i)) = match F.findIdx? (fun f => kindM N c f == kindM N c i) with | some k => (k : Int) | none => -1 := by
  have : (kL N c F).findIdx? (fun x => x == nL (kindM N c i)) = F.findIdx? (fun f => kindM N c f == kindM N c i) := by
    rw [kL, List.findIdx?_map]
    congr 1
    funext f
    rw [Bool.eq_iff_iff]
    simp only [Function.comp, beq_iff_eq]
    exact ⟨fun h => nL_inj h, fun h => by rw [h]⟩
  rw [idxI, this]
  all_goals (cases F.findIdx? (fun f => kindM N c f == kindM N c i) <;> rfl)
def RKd (args : List AV) (r : AV) : Prop := ∃ (n : Nat) (N : List Int) (A : List Bool) (c : List Nat) (s : Nat), WfD n N A ∧ c.length = n ∧ s < n ∧ args = [.fptr [.sl n (cI N), .sl n (cB A), .sl n (cI (nL c))], .int .i64 s] ∧ r = .agg (cI (nL (kindM N c s)))
theorem RKd_fn : Fun1 RKd := by
  rintro args r r' ⟨n, N, A, c, s, _, _, _, rfl, rfl⟩ ⟨n', N', A', c', s', _, _, _, h, rfl⟩
  simp only [List.cons.injEq, AV.fptr.injEq, AV.sl.injEq, AV.int.injEq, true_and, and_true] at h
  obtain ⟨⟨⟨_, h1⟩, _, ⟨_, h2⟩⟩, h3⟩ := h
  rw [cI_inj h1, nL_inj (cI_inj h2), show s = s' by omega]
theorem RKd_ok (args r) (h : RKd args r) : Ok Tryd.prog 60 args r := by obtain ⟨n, N, A, c, s, h1, h2, h3, rfl, rfl⟩ := h; exact kind_ok h1 h2 h3
def RIdf (args : List AV) (r : AV) : Prop := ∃ (K : List (List Int)) (y : List Int), (∀ x ∈ K, x.length = 6) ∧ K.length ≤ 100000 ∧ y.length = 6 ∧ args = [.sl K.length (kC K), isFn y] ∧ r = .int .i64 (idxI K y)
theorem RIdf_fn : Fun1 RIdf := by
  rintro args r r' ⟨K, y, h1, _, _, rfl, rfl⟩ ⟨K', y', h1', _, _, h, rfl⟩
  simp only [List.cons.injEq, AV.sl.injEq, AV.fn.injEq, AV.fptr.injEq, true_and, and_true] at h
  rw [kC_inj h1 h1' h.1.2, cI_inj h.2]
theorem RIdf_ok (args r) (h : RIdf args r) : Ok Tryd.prog 61 args r := by obtain ⟨K, y, h1, h2, h3, rfl, rfl⟩ := h; exact idxf_ok h1 h2 h3
noncomputable def XK : FuncId → List AV → Option AV := tabLook [(60, tRel RKd), (61, tRel RIdf)]
theorem XK_ok : CPSound Tryd.prog XK := tab_cons (tab_cons (tab_nil _) (tRel_ok RIdf_ok)) (tRel_ok RKd_ok)
theorem XK_kind {n : Nat} {N : List Int} {A : List Bool} (hw : WfD n N A) {c : List Nat} (hc : c.length = n) {s : Nat} (hs : s < n) : XK 60 [.fptr [.sl n (cI N), .sl n (cB A), .sl n (cI (nL c))], .int .i64 s] = some (.agg (cI (nL (kindM N c s)))) := tRel_eq (R := RKd) RKd_fn ⟨_, _, _, _, _, hw, hc, hs, rfl, rfl⟩
theorem XK_idx {K : List (List Int)} {n : Nat} (hn : K.length = n) (hK : ∀ x ∈ K, x.length = 6) (hl : n ≤ 100000) {y : List Int} (hy : y.length = 6) : XK 61 [.sl n (kC K), isFn y] = some (.int .i64 (idxI K y)) := tRel_eq (R := RIdf) RIdf_fn ⟨K, y, hK, by omega, hy, by rw [hn], rfl⟩
theorem lookFi (X) : lookedAt (EX md0 X) (fun _ => none) 1 Tryd.f39 = true := by kernel_rfl
/-- What a call of finer leaves. -/
abbrev FinKeep (nx : Nat) (o o' : Ob) : Prop := Kp [43, 23] nx o o'
abbrev partsP : AV := .ptr (1, 23) (1, 23) 0
theorem splice_new (x : List Nat) (n i : Nat) (v : Int) (hx : x.length = i) (hi : i < n) : splice (cI (nL x ++ List.replicate (n - i) 0)) i [.int .i64 v] = cI (nL x ++ v :: List.replicate (n - (i + 1)) 0) := by
  rw [cI_set _ _ _ (by rw [List.length_append, nL_len, List.length_replicate]; omega), List.set_append, if_neg (by rw [nL_len]; omega), nL_len, hx, Nat.sub_self]
  obtain ⟨d, hd⟩ : ∃ d, n - i = d + 1 := ⟨n - i - 1, by omega⟩
  rw [hd, show n - (i + 1) = d by omega, List.replicate_succ]
  rfl
theorem splice_again (x : List Nat) (l : List Int) (i : Nat) (v w : Int) (hx : x.length = i) : splice (cI (nL x ++ v :: l)) i [.int .i64 w] = cI (nL x ++ w :: l) := by
  rw [cI_set _ _ _ (by rw [List.length_append, nL_len, List.length_cons]; omega), List.set_append, if_neg (by rw [nL_len]; omega), nL_len, hx, Nat.sub_self]
  rfl
theorem take1_new (x : List Nat) (l : List Int) (i s : Nat) (v : Int) (hx : x.length = i) : take1 false s ((cI (nL x ++ v :: l)).drop i) = some (.int .i64 v) := by
  rw [cI_app, List.drop_append, List.drop_eq_nil_of_le (by rw [cI_length, nL_len]; omega), cI_length, nL_len, hx, Nat.sub_self]
  rfl
set_option maxHeartbeats 4000000 in
theorem finer_wp (cr : CallR) {o : Ob} {nx : Nat} {n : Nat} {N : List Int} {A : List Bool} (hw : WfD n N A) {c : List Nat} (hc : c.length = n) {q s : Nat} {g : Tag} (hqn : q < nx) (hs : s ∉ [43, 23]) (h2 : 2 ≤ nx)
    (hr : o (1, 23) = some (.row ⟨66, 1, (1, 23), false, true, [.sl n (cI N), .sl n (cB A), .ref (q, s) g 0 n]⟩)) (hq : o (q, s) = some (.row ⟨3, 1, g, false, true, cI (nL c)⟩)) :
    WP (EX md0 XK) cr 2005 (fun _ => none) (Tryd.f39.body.getD .skip) (begin_ [partsP]) o nx (fun u a o' nx' => u = .ret ∧ a 2 = .int .i64 ((finM N c n).1.length : Nat) ∧ nx + 4 ≤ nx' ∧
      o' (1, 23) = some (.row ⟨66, 1, (1, 23), false, true, [.sl n (cI N), .sl n (cB A), .ref (nx + 3, 15) (nx + 3, 15) 0 n]⟩) ∧ o' (nx + 3, 15) = some (.row ⟨3, 1, (nx + 3, 15), false, true, cI (nL (finM N c n).2)⟩) ∧ FinKeep nx o o') := by
  have hn := hw.sz
  have hcl : (cI (nL c)).length = n := by rw [cI_length, nL_len, hc]
  have hctk : (cI (nL c)).take n = cI (nL c) := take_len hcl
  simp only [Tryd.f39, Option.getD_some]
  simp (disch := omega) only [go_sem, ↓IntWalk.iteOmega, IntWalk.toNatUp, Nat.reduceEqDiff, Nat.reduceAdd, Nat.reduceMul, Nat.reduceSub, Nat.reduceLT, Nat.reduceLeDiff, Int.reduceToNat, Int.reduceLT, Int.reduceLE, Int.reduceEq, Int.reduceAdd, Int.reduceSub, Int.reduceMul, Int.toNat_natCast, reduceCtorEq, decide_true, decide_false, IntWalk.i64_in, IntWalk.u64_in, IntWalk.u8_in, hr, hq]
  refine WP_loop (fun m a o' nx' => ∃ (i : Nat) (F x : List Nat) (vK : AV), finM N c i = (F, x) ∧ x.length = i ∧ F.length ≤ i ∧ i ≤ n ∧ m = n - i ∧ nx + 5 ≤ nx' ∧ Kp [43] nx o o' ∧
      o' (nx + 3, 15) = some (.row ⟨3, 1, (nx + 3, 15), false, true, cI (nL x ++ List.replicate (n - i) 0)⟩) ∧ HS 110 6 43 o' nx' vK F.length (kC (kL N c F)) ∧
      a 0 = partsP ∧ a 3 = .fn (.func 60) [partsP] [] ∧ a 4 = vK ∧ a 5 = .ref (nx + 3, 15) (nx + 3, 15) 0 n ∧ a 17 = .int .i64 n ∧ a 18 = .int .i64 i) n (by omega)
    ⟨0, [], [], .nil, rfl, rfl, Nat.le_refl _, by omega, by omega, by omega, (Kp.refl _ _ _).upd (.inl (by omega)), by simp [upd_app, rep_int, nL], HS.nil, by simp (disch := omega) only [go_sem, ↓IntWalk.iteOmega, IntWalk.toNatUp, Nat.reduceEqDiff, Nat.reduceAdd, Nat.reduceMul, Nat.reduceSub, Nat.reduceLT, Nat.reduceLeDiff, Int.reduceToNat, Int.reduceLT, Int.reduceLE, Int.reduceEq, Int.reduceAdd, Int.reduceSub, Int.reduceMul, Int.toNat_natCast, reduceCtorEq, decide_true, decide_false, IntWalk.i64_in, IntWalk.u64_in, IntWalk.u8_in], by simp (disch := omega) only [go_sem, ↓IntWalk.iteOmega, IntWalk.toNatUp, Nat.reduceEqDiff, Nat.reduceAdd, Nat.reduceMul, Nat.reduceSub, Nat.reduceLT, Nat.reduceLeDiff, Int.reduceToNat, Int.reduceLT, Int.reduceLE, Int.reduceEq, Int.reduceAdd, Int.reduceSub, Int.reduceMul, Int.toNat_natCast, reduceCtorEq, decide_true, decide_false, IntWalk.i64_in, IntWalk.u64_in, IntWalk.u8_in], by simp (disch := omega) only [go_sem, ↓IntWalk.iteOmega, IntWalk.toNatUp, Nat.reduceEqDiff, Nat.reduceAdd, Nat.reduceMul, Nat.reduceSub, Nat.reduceLT, Nat.reduceLeDiff, Int.reduceToNat, Int.reduceLT, Int.reduceLE, Int.reduceEq, Int.reduceAdd, Int.reduceSub, Int.reduceMul, Int.toNat_natCast, reduceCtorEq, decide_true, decide_false, IntWalk.i64_in, IntWalk.u64_in, IntWalk.u8_in], by simp (disch := omega) only [go_sem, ↓IntWalk.iteOmega, IntWalk.toNatUp, Nat.reduceEqDiff, Nat.reduceAdd, Nat.reduceMul, Nat.reduceSub, Nat.reduceLT, Nat.reduceLeDiff, Int.reduceToNat, Int.reduceLT, Int.reduceLE, Int.reduceEq, Int.reduceAdd, Int.reduceSub, Int.reduceMul, Int.toNat_natCast, reduceCtorEq, decide_true, decide_false, IntWalk.i64_in, IntWalk.u64_in, IntWalk.u8_in], by simp (disch := omega) only [go_sem, ↓IntWalk.iteOmega, IntWalk.toNatUp, Nat.reduceEqDiff, Nat.reduceAdd, Nat.reduceMul, Nat.reduceSub, Nat.reduceLT, Nat.reduceLeDiff, Int.reduceToNat, Int.reduceLT, Int.reduceLE, Int.reduceEq, Int.reduceAdd, Int.reduceSub, Int.reduceMul, Int.toNat_natCast, reduceCtorEq, decide_true, decide_false, IntWalk.i64_in, IntWalk.u64_in, IntWalk.u8_in], by simp (disch := omega) only [go_sem, ↓IntWalk.iteOmega, IntWalk.toNatUp, Nat.reduceEqDiff, Nat.reduceAdd, Nat.reduceMul, Nat.reduceSub, Nat.reduceLT, Nat.reduceLeDiff, Int.reduceToNat, Int.reduceLT, Int.reduceLE, Int.reduceEq, Int.reduceAdd, Int.reduceSub, Int.reduceMul, Int.toNat_natCast, reduceCtorEq, decide_true, decide_false, IntWalk.i64_in, IntWalk.u64_in, IntWalk.u8_in]⟩ ?_
  rintro m a o' nx' ⟨i, F, x, vK, hf, hxl, hFl, hi, rfl, hnx', hkp, ho15, hK, ha0, ha3, ha4, ha5, ha17, ha18⟩
  have hr' := (hkp 1 23 (by omega) (by decide)).trans hr
  have hq' := (hkp q s hqn (fun h => hs (by simp at h; simp [h]))).trans hq
  by_cases hlt : i < n
  · have hkd := XK_kind hw hc hlt
    have hkl : (kL N c F).length = F.length := by simp [kL]
    have hidx := XK_idx hkl (kL_six N c F) (by omega) (y := nL (kindM N c i)) (by rw [nL_len, kindM_len])
    rw [idx_fin] at hidx
    have hfs : finM N c (i + 1) = match F.findIdx? (fun f => kindM N c f == kindM N c i) with | some k => (F, x ++ [k]) | none => (F ++ [i], x ++ [F.length]) := by
      rw [finM, hf]
      rfl
    have hkla : kL N c (F ++ [i]) = kL N c F ++ [nL (kindM N c i)] := by simp [kL]
    have hl6 : (cI (nL (kindM N c i))).length = 6 := by rw [cI_length, nL_len, kindM_len]
    have ht6 : (cI (nL (kindM N c i))).take 6 = cI (nL (kindM N c i)) := take_len hl6
    have hok6 := cI_ok (nL (kindM N c i))
    have hvi := fun o d => view_cI o d (nL (kindM N c i))
    have hv : ∀ o'' : Ob, (∀ i, o'' (i, 43) = o' (i, 43)) → view o'' 1012 vK = .sl F.length (kC (kL N c F)) := fun o'' h => by
      rw [(hK.keep (fun i _ => h i) (Nat.le_refl _)).view 1011, view_kC]
    have hokK := hK.ok
    have hkC1 : kC (kL N c F ++ [nL (kindM N c i)]) = kC (kL N c F) ++ cI (nL (kindM N c i)) := by rw [kC_app]; simp [kC]
    have hdz : List.drop 6 [AV.int .i64 0, .int .i64 0, .int .i64 0, .int .i64 0, .int .i64 0, .int .i64 0] = [] := rfl
    have hrl : (cI (nL x ++ List.replicate (n - i) 0)).length = n := by rw [cI_length, List.length_append, nL_len, List.length_replicate]; omega
    have hrl2 : ∀ v : Int, (cI (nL x ++ v :: List.replicate (n - (i + 1)) 0)).length = n := fun v => by rw [cI_length, List.length_append, nL_len, List.length_cons, List.length_replicate]; omega
    have hset := fun v => splice_new x n i v hxl hlt
    have hset2 := fun v w => splice_again x (List.replicate (n - (i + 1)) 0) i v w hxl
    have hget := fun v => take1_new x (List.replicate (n - (i + 1)) 0) i 1 v hxl
    have hlK : ∀ o'' : Ob, aLen Tryd.prog o'' 108 vK = some (.int .i64 (F.length : Nat)) := fun o'' => by
      rcases hK with ⟨rfl, h0, _⟩ | ⟨i1, g1, rfl, _⟩
      · rw [h0]; rfl
      · rfl
    obtain ⟨jK, hjK, hap⟩ := hK.app (nx' + 6) 48 1 (cI (nL (kindM N c i))) (by omega) (by rw [hl6]) hok6 (by simp only [maxB]; omega)
    have hkC6 : (kC (kL N c F)).length = F.length * 6 := by rw [kC_len (kL_six N c F), hkl]
    have hfl := flats_cI (nL (kindM N c i))
    generalize hkm : nL (kindM N c i) = km at *
    cases hfi : F.findIdx? (fun f => kindM N c f == kindM N c i) with
    | some k =>
      rw [hfi] at hfs hidx
      dsimp only at hfs hidx
      obtain ⟨hkF, _⟩ := List.findIdx?_eq_some_iff_getElem.1 hfi
      simp (disch := first | omega | (intro _; simp only [upd_app, Nat.reduceEqDiff, if_false])) only [go_sem, ↓IntWalk.iteOmega, IntWalk.toNatUp, Nat.reduceEqDiff, Nat.reduceAdd, Nat.reduceMul, Nat.reduceSub, Nat.reduceLT, Nat.reduceLeDiff, Int.reduceToNat, Int.reduceLT, Int.reduceLE, Int.reduceEq, Int.reduceAdd, Int.reduceSub, Int.reduceMul, Int.toNat_natCast, reduceCtorEq, decide_true, decide_false, IntWalk.i64_in, IntWalk.u64_in, IntWalk.u8_in, ha0, ha3, ha4, ha5, ha17, ha18, hr', hq', ho15, hcl, hctk, hkd, hv, hidx, hl6, ht6, hok6, hdz, List.append_nil, hrl, hrl2, hset, hset2, hget, hvi, hfl]
      exact ⟨n - (i + 1), by omega, i + 1, F, x ++ [k], vK, hfs, by simp [hxl], by omega, by omega, rfl, by omega, ((hkp.upd (.inl (by omega))).upd (.inl (by omega))).upd (.inl (by omega)), by simp [nL], hK.keep (fun i' _ => by simp [upd_app]) (by omega), rfl, rfl⟩
    | none =>
      rw [hfi] at hfs hidx
      dsimp only at hfs hidx
      simp (disch := first | omega | (intro _; simp only [upd_app, Nat.reduceEqDiff, if_false])) only [go_sem, ↓IntWalk.iteOmega, IntWalk.toNatUp, Nat.reduceEqDiff, Nat.reduceAdd, Nat.reduceMul, Nat.reduceSub, Nat.reduceLT, Nat.reduceLeDiff, Int.reduceToNat, Int.reduceLT, Int.reduceLE, Int.reduceEq, Int.reduceAdd, Int.reduceSub, Int.reduceMul, Int.toNat_natCast, reduceCtorEq, decide_true, decide_false, IntWalk.i64_in, IntWalk.u64_in, IntWalk.u8_in, ha0, ha3, ha4, ha5, ha17, ha18, hr', hq', ho15, hcl, hctk, hkd, hv, hidx, hl6, ht6, hok6, hdz, List.append_nil, hrl, hrl2, hset, hset2, hget, hvi, hfl, hlK, hap]
      refine ⟨n - (i + 1), by omega, i + 1, F ++ [i], x ++ [F.length], _, hfs, by simp [hxl], by simp; omega, by omega, rfl, by omega, (((((hkp.upd (.inl (by omega))).upd (.inl (by omega))).upd (.inl (by omega))).upd (.inl (by omega))).upd (.inl (by omega))).upd (.inr (by decide)), by simp [nL], ?_, rfl, rfl⟩
      rw [hkla, hkC1, List.length_append]
      exact HS.grown (m := 1) (by omega) (by simp [upd_app]) hkC6 (by rw [hl6])
  · have hie : i = n := by omega
    subst hie
    rw [hf]
    rw [Nat.sub_self, List.replicate_zero, List.append_nil] at ho15
    have hlK : ∀ o'' : Ob, aLen Tryd.prog o'' 108 vK = some (.int .i64 (F.length : Nat)) := fun o'' => by
      rcases hK with ⟨rfl, h0, _⟩ | ⟨i1, g1, rfl, _⟩
      · rw [h0]; rfl
      · rfl
    simp (disch := omega) only [go_sem, ↓IntWalk.iteOmega, IntWalk.toNatUp, Nat.reduceEqDiff, Nat.reduceAdd, Nat.reduceMul, Nat.reduceSub, Nat.reduceLT, Nat.reduceLeDiff, Int.reduceToNat, Int.reduceLT, Int.reduceLE, Int.reduceEq, Int.reduceAdd, Int.reduceSub, Int.reduceMul, Int.toNat_natCast, reduceCtorEq, decide_true, decide_false, IntWalk.i64_in, IntWalk.u64_in, IntWalk.u8_in, ha0, ha3, ha4, ha5, ha17, ha18, hr', hlK]
    exact ⟨by omega, ho15, (hkp.more (fun k hk h => hk (by simp at h; simp [h]))).upd (.inr (by decide))⟩
noncomputable def crMn : CallR := tabLookR [(39, fun args H => if args.length = 1 then runP (EX md0 XK) noR 2005 (fun _ => none) Tryd.f39 args H else none)]
theorem crMn_ok : CRSound Tryd.prog crMn ∧ Up crMn := by
  refine tabR_cons (tabR_nil _) fun args H v H' h => ?_
  split at h
  · rename_i hn
    exact okR_run (E := EX md0 XK) XK_ok (noR_ok Tryd.prog).1 (noR_ok Tryd.prog).2 mixed Tryd.func39 (by rw [hn]; exact lookFi XK) h
  · cases h
theorem finer_call {o : Ob} {nx : Nat} {n : Nat} {N : List Int} {A : List Bool} (hw : WfD n N A) {c : List Nat} (hc : c.length = n) {q s : Nat} {g : Tag} (hqn : q < nx) (hs : s ∉ [43, 23]) (h2 : 2 ≤ nx)
    (hr : o (1, 23) = some (.row ⟨66, 1, (1, 23), false, true, [.sl n (cI N), .sl n (cB A), .ref (q, s) g 0 n]⟩)) (hq : o (q, s) = some (.row ⟨3, 1, g, false, true, cI (nL c)⟩)) {K : AV × AH → Prop}
    (hK : ∀ o' nx', nx + 4 ≤ nx' → o' (1, 23) = some (.row ⟨66, 1, (1, 23), false, true, [.sl n (cI N), .sl n (cB A), .ref (nx + 3, 15) (nx + 3, 15) 0 n]⟩) → o' (nx + 3, 15) = some (.row ⟨3, 1, (nx + 3, 15), false, true, cI (nL (finM N c n).2)⟩) → FinKeep nx o o' → K (.int .i64 ((finM N c n).1.length : Nat), ⟨o', nx'⟩)) :
    wO (Option.map (fun p => freezeR false p.1 p.2) (crMn 39 [partsP] ⟨o, nx⟩)) K := by
  refine runP_callE (E := EX md0 XK) (fn := Tryd.f39) rfl (WP_mono (finer_wp noR hw hc hqn hs h2 hr hq) ?_)
  rintro u a o' nx' ⟨rfl, h1, h2, h3, h4, h5⟩
  refine ⟨.inr rfl, ?_⟩
  simp only [Tryd.f39]
  simp (disch := omega) only [go_sem, ↓IntWalk.iteOmega, IntWalk.toNatUp, Nat.reduceEqDiff, Nat.reduceAdd, Nat.reduceMul, Nat.reduceSub, Nat.reduceLT, Nat.reduceLeDiff, Int.reduceToNat, Int.reduceLT, Int.reduceLE, Int.reduceEq, Int.reduceAdd, Int.reduceSub, Int.reduceMul, Int.toNat_natCast, reduceCtorEq, decide_true, decide_false, IntWalk.i64_in, IntWalk.u64_in, IntWalk.u8_in, h1]
  exact hK o' nx' h2 h3 h4 h5
end Go.Proofs.YtpmjpogcaglphaaDoor.A
/- The program's least machine. -/
namespace Go.Proofs.YtpmjpogcaglphaaDoor.A
open Go
set_option maxRecDepth 20000
/-! ### copies of data -/
theorem nil_eq {t : TypeId} (h : isSlT (Tryd.prog.underlying t) = true) {n : Nat} (hn : 0 < n) (cs : List AV) : aBin Tryd.prog .eql t (.sl n cs) .nil = some (.bool false) := by
  unfold aBin
  simp only [h, if_true, nilA, if_pos hn]
  rfl
theorem lookC5 (X) : lookedAt (EX md0 X) (fun _ => none) 1 Tryd.f40 = true := by kernel_rfl
theorem lookCb (X) : lookedAt (EX md0 X) (fun _ => none) 1 Tryd.f41 = true := by kernel_rfl
theorem clone5_ok {n : Nat} {N : List Int} (hn : 0 < n) (hm : n ≤ 100000) (hl : N.length = 5 * n) : Ok Tryd.prog 40 [.sl n (cI N)] (.sl n (cI N)) := by
  refine ok_of_WP (E := EX md0 (fun _ _ => none)) (cr := noR) (tab_nil _) (noR_ok _) mixed (k := 0) Tryd.func40 (lookC5 _) rfl ?_
  have h0 := nil_eq (t := 24) (by kernel_rfl) hn (cI N)
  have h1 : (cI N).length = n * 5 := by rw [cI_length, hl]; omega
  have h2 : (cI N).take (n * 5) = cI N := take_len h1
  simp only [Tryd.f40, Option.getD_some]
  simp (disch := omega) only [go_sem, ↓IntWalk.iteOmega, IntWalk.toNatUp, Nat.reduceEqDiff, Nat.reduceAdd, Nat.reduceMul, Nat.reduceSub, Nat.reduceLT, Nat.reduceLeDiff, Int.reduceToNat, Int.reduceLT, Int.reduceLE, Int.reduceEq, Int.reduceAdd, Int.reduceSub, Int.reduceMul, Int.toNat_natCast, reduceCtorEq, decide_true, decide_false, IntWalk.i64_in, IntWalk.u64_in, IntWalk.u8_in, h0, h1, h2, Nat.zero_mul, List.take_zero, List.nil_append, Nat.zero_add, List.drop_zero]
theorem cloneB_ok {A : List Bool} (hn : 0 < A.length) (hm : A.length ≤ 100000) : Ok Tryd.prog 41 [.sl A.length (cB A)] (.sl A.length (cB A)) := by
  refine ok_of_WP (E := EX md0 (fun _ _ => none)) (cr := noR) (tab_nil _) (noR_ok _) mixed (k := 0) Tryd.func41 (lookCb _) rfl ?_
  have h0 := nil_eq (t := 25) (by kernel_rfl) hn (cB A)
  have h1 : (cB A).length = A.length * 1 := by rw [cB_length]; omega
  have h2 : (cB A).take (A.length * 1) = cB A := take_len h1
  have h3 : (cB A).take A.length = cB A := take_len (cB_length A)
  simp only [Tryd.f41, Option.getD_some]
  simp (disch := omega) only [go_sem, ↓IntWalk.iteOmega, IntWalk.toNatUp, Nat.reduceEqDiff, Nat.reduceAdd, Nat.reduceMul, Nat.reduceSub, Nat.reduceLT, Nat.reduceLeDiff, Int.reduceToNat, Int.reduceLT, Int.reduceLE, Int.reduceEq, Int.reduceAdd, Int.reduceSub, Int.reduceMul, Int.toNat_natCast, reduceCtorEq, decide_true, decide_false, IntWalk.i64_in, IntWalk.u64_in, IntWalk.u8_in, h0, h1, h2, h3, Nat.zero_mul, List.take_zero, List.nil_append, Nat.zero_add, List.drop_zero]
def RC5 (args : List AV) (r : AV) : Prop := ∃ (n : Nat) (N : List Int), 0 < n ∧ n ≤ 100000 ∧ N.length = 5 * n ∧ args = [.sl n (cI N)] ∧ r = .sl n (cI N)
theorem RC5_fn : Fun1 RC5 := by
  rintro args r r' ⟨n, N, _, _, _, rfl, rfl⟩ ⟨n', N', _, _, _, h, rfl⟩
  simp only [List.cons.injEq, and_true] at h
  exact h
theorem RC5_ok (args r) (h : RC5 args r) : Ok Tryd.prog 40 args r := by obtain ⟨n, N, h1, h2, h3, rfl, rfl⟩ := h; exact clone5_ok h1 h2 h3
def RCb (args : List AV) (r : AV) : Prop := ∃ A : List Bool, 0 < A.length ∧ A.length ≤ 100000 ∧ args = [.sl A.length (cB A)] ∧ r = .sl A.length (cB A)
theorem RCb_fn : Fun1 RCb := by
  rintro args r r' ⟨A, _, _, rfl, rfl⟩ ⟨A', _, _, h, rfl⟩
  simp only [List.cons.injEq, and_true] at h
  exact h
theorem RCb_ok (args r) (h : RCb args r) : Ok Tryd.prog 41 args r := by obtain ⟨A, h1, h2, rfl, rfl⟩ := h; exact cloneB_ok h1 h2
noncomputable def XMz : FuncId → List AV → Option AV := tabLook [(40, tRel RC5), (41, tRel RCb)]
theorem XMz_ok : CPSound Tryd.prog XMz := tab_cons (tab_cons (tab_nil _) (tRel_ok RCb_ok)) (tRel_ok RC5_ok)
theorem XMz_5 {n : Nat} {N : List Int} (hn : 0 < n) (hm : n ≤ 100000) (hl : N.length = 5 * n) : XMz 40 [.sl n (cI N)] = some (.sl n (cI N)) := tRel_eq (R := RC5) RC5_fn ⟨_, _, hn, hm, hl, rfl, rfl⟩
theorem XMz_b {n : Nat} {A : List Bool} (hn : 0 < n) (hm : n ≤ 100000) (hl : A.length = n) : XMz 41 [.sl n (cB A)] = some (.sl n (cB A)) := by
  subst hl
  exact tRel_eq (R := RCb) RCb_fn ⟨_, hn, hm, rfl, rfl⟩
/-! ### numbers of classes, in a map -/
def mapFrom (cl : Nat → Nat) : Nat → List Nat → List (AV × AV)
  | _, [] => []
  | j, s :: l => (.int .i64 (cl s : Nat), .int .i64 (j : Nat)) :: mapFrom cl (j + 1) l
theorem mapFrom_snoc (cl : Nat → Nat) (to : Nat) : ∀ (L : List Nat) (j : Nat), mapFrom cl j (L ++ [to]) = mapFrom cl j L ++ [(.int .i64 (cl to : Nat), .int .i64 (j + L.length : Nat))]
  | [], j => rfl
  | s :: l, j => by
    rw [List.cons_append, mapFrom, mapFrom, mapFrom_snoc cl to l (j + 1), List.cons_append, List.length_cons, show j + 1 + l.length = j + (l.length + 1) by omega]
theorem findA_from (cl : Nat → Nat) (k : Nat) : ∀ (L : List Nat) (j : Nat), findA (.int .i64 (k : Nat)) (mapFrom cl j L) = some ((L.findIdx? fun s => cl s == k).map fun i => .int .i64 (j + i : Nat))
  | [], j => rfl
  | s :: l, j => by
    have ih := findA_from cl k l (j + 1)
    rw [mapFrom, findA, ih, List.findIdx?_cons]
    have he : eqKey (.int .i64 (k : Nat)) (.int .i64 (cl s : Nat)) = some (cl s == k) := by
      simp only [eqKey, if_true]
      congr 1
      rw [Bool.eq_iff_iff]
      simp only [beq_iff_eq]
      omega
    rw [he]
    by_cases h : cl s == k
    · rw [h]; simp
    · have h : (cl s == k) = false := by simpa using h
      rw [h]
      cases List.findIdx? (fun s => cl s == k) l with
      | none => rfl
      | some i => simp; omega
theorem map_new {cl : Nat → Nat} {L : List Nat} {to : Nat} (h : L.findIdx? (fun s => cl s == cl to) = none) : putA (.int .i64 (cl to : Nat)) (.int .i64 (L.length : Nat)) (mapFrom cl 0 L) = mapFrom cl 0 (L ++ [to]) := by
  have hf := findA_from cl (cl to) L 0
  rw [h] at hf
  rw [(findA_none hf).2, mapFrom_snoc, Nat.zero_add]
def nzMn : Nat → Option (List (Nat × Nat))
  | 1 => some [(0, 4)]
  | 29 => some [(1, 3), (3, 6), (4, 6), (3, 8), (4, 8), (3, 12), (4, 12), (3, 14), (4, 14), (1, 15), (2, 15), (3, 15), (4, 15), (6, 15)]
  | 30 => some [(2, 4)]
  | _ => none
theorem lookMn : lookedAt (EX md0 XMz) nzMn 1 Tryd.f16 = true := by kernel_rfl
set_option maxHeartbeats 8000000 in
theorem min_wp {n : Nat} {N : List Int} {A : List Bool} (hw : WfD n N A) :
    WP (EX md0 XMz) crMn 2005 nzMn (Tryd.f16.body.getD .skip) (begin_ [dfaV n N A]) (fun _ => none) 0 (fun u a o nx => u = .ret ∧ view o vDepth ((aLoad Tryd.prog 27 (a 2) ⟨o, nx⟩).getD .und) = dfaV (minA N A).length (minN N A) (minA N A)) := by
  have hn := hw.sz
  have hN := hw.l
  have hA := hw.a
  have hO := hw.okD
  have hrun := (min_ok hO).run
  have hcl := cls_lt hO
  have hclen := cls_len hO
  have hcls := (cls_spec hO).1
  have hc0 := hcl 0
  have hres : dfaV (minA N A).length (minN N A) (minA N A) = .agg [.sl (minLR N A).1.length (cI (nL (minLR N A).2)), .sl (minLR N A).1.length (cB (accL A (minLR N A).1))] := by
    rw [dfaV, slB, minA_len]; rfl
  rw [hres]
  generalize minLR N A = P at *
  generalize clsOf N A = c at *
  rw [hA] at hrun hcl hclen hc0 hcls
  simp only [Tryd.f16, Option.getD_some]
  rw [dfaV, slB, hA]
  simp (disch := omega) only [go_sem, ↓IntWalk.iteOmega, IntWalk.toNatUp, Nat.reduceEqDiff, Nat.reduceAdd, Nat.reduceMul, Nat.reduceSub, Nat.reduceLT, Nat.reduceLeDiff, Int.reduceToNat, Int.reduceLT, Int.reduceLE, Int.reduceEq, Int.reduceAdd, Int.reduceSub, Int.reduceMul, Int.toNat_natCast, reduceCtorEq, decide_true, decide_false, IntWalk.i64_in, IntWalk.u64_in, IntWalk.u8_in, nzMn]
  refine WP_loop (fun m a o nx => ∃ i : Nat, i ≤ n ∧ m = n - i ∧ 2 ≤ nx ∧ a 1 = .ptr (0, 1) (0, 1) 0 ∧ a 2 = .ptr (0, 2) (0, 2) 0 ∧ a 3 = partsP ∧ a 25 = .sl n (cB A) ∧ a 26 = .int .i64 n ∧ a 27 = .int .i64 i ∧ o (0, 1) = some (.row ⟨27, 1, (0, 1), false, true, [.sl n (cI N), .sl n (cB A)]⟩) ∧ o (0, 2) = some (.row ⟨27, 1, (0, 2), false, true, [.nil, .nil]⟩) ∧ o (1, 23) = some (.row ⟨66, 1, (1, 23), false, true, [.sl n (cI N), .sl n (cB A), .ref (1, 21) (1, 21) 0 n]⟩) ∧ o (1, 21) = some (.row ⟨3, 1, (1, 21), false, true, cI (nL (accM (A.take i)) ++ List.replicate (n - i) 0)⟩)) n (by omega)
    ⟨0, by omega, by omega, by omega, by simp (disch := omega) only [go_sem, ↓IntWalk.iteOmega, IntWalk.toNatUp, Nat.reduceEqDiff, Nat.reduceAdd, Nat.reduceMul, Nat.reduceSub, Nat.reduceLT, Nat.reduceLeDiff, Int.reduceToNat, Int.reduceLT, Int.reduceLE, Int.reduceEq, Int.reduceAdd, Int.reduceSub, Int.reduceMul, Int.toNat_natCast, reduceCtorEq, decide_true, decide_false, IntWalk.i64_in, IntWalk.u64_in, IntWalk.u8_in], by simp (disch := omega) only [go_sem, ↓IntWalk.iteOmega, IntWalk.toNatUp, Nat.reduceEqDiff, Nat.reduceAdd, Nat.reduceMul, Nat.reduceSub, Nat.reduceLT, Nat.reduceLeDiff, Int.reduceToNat, Int.reduceLT, Int.reduceLE, Int.reduceEq, Int.reduceAdd, Int.reduceSub, Int.reduceMul, Int.toNat_natCast, reduceCtorEq, decide_true, decide_false, IntWalk.i64_in, IntWalk.u64_in, IntWalk.u8_in], by simp (disch := omega) only [go_sem, ↓IntWalk.iteOmega, IntWalk.toNatUp, Nat.reduceEqDiff, Nat.reduceAdd, Nat.reduceMul, Nat.reduceSub, Nat.reduceLT, Nat.reduceLeDiff, Int.reduceToNat, Int.reduceLT, Int.reduceLE, Int.reduceEq, Int.reduceAdd, Int.reduceSub, Int.reduceMul, Int.toNat_natCast, reduceCtorEq, decide_true, decide_false, IntWalk.i64_in, IntWalk.u64_in, IntWalk.u8_in], by simp (disch := omega) only [go_sem, ↓IntWalk.iteOmega, IntWalk.toNatUp, Nat.reduceEqDiff, Nat.reduceAdd, Nat.reduceMul, Nat.reduceSub, Nat.reduceLT, Nat.reduceLeDiff, Int.reduceToNat, Int.reduceLT, Int.reduceLE, Int.reduceEq, Int.reduceAdd, Int.reduceSub, Int.reduceMul, Int.toNat_natCast, reduceCtorEq, decide_true, decide_false, IntWalk.i64_in, IntWalk.u64_in, IntWalk.u8_in], by simp (disch := omega) only [go_sem, ↓IntWalk.iteOmega, IntWalk.toNatUp, Nat.reduceEqDiff, Nat.reduceAdd, Nat.reduceMul, Nat.reduceSub, Nat.reduceLT, Nat.reduceLeDiff, Int.reduceToNat, Int.reduceLT, Int.reduceLE, Int.reduceEq, Int.reduceAdd, Int.reduceSub, Int.reduceMul, Int.toNat_natCast, reduceCtorEq, decide_true, decide_false, IntWalk.i64_in, IntWalk.u64_in, IntWalk.u8_in], by simp (disch := omega) only [go_sem, ↓IntWalk.iteOmega, IntWalk.toNatUp, Nat.reduceEqDiff, Nat.reduceAdd, Nat.reduceMul, Nat.reduceSub, Nat.reduceLT, Nat.reduceLeDiff, Int.reduceToNat, Int.reduceLT, Int.reduceLE, Int.reduceEq, Int.reduceAdd, Int.reduceSub, Int.reduceMul, Int.toNat_natCast, reduceCtorEq, decide_true, decide_false, IntWalk.i64_in, IntWalk.u64_in, IntWalk.u8_in], by simp [upd_app], by simp [upd_app], by simp [upd_app], by simp [upd_app, rep_int, nL, accM]⟩ ?_
  rintro m a o nx ⟨i, hi, rfl, hnx, h1, h2, h3, h25, h26, h27, o1, o2, o23, o21⟩
  by_cases hlt : i < n
  · have hat := cB_get (l := A) (i := i) (s := 1) (by omega)
    have hsn := accM_snoc (A := A) (i := i) (by omega)
    have hxl : (accM (A.take i)).length = i := by simp [accM]; omega
    have hset1 : splice (cI (nL (accM (A.take i)) ++ List.replicate (n - i) 0)) i [.int .i64 1] = cI (nL (accM (A.take i) ++ [1]) ++ List.replicate (n - (i + 1)) 0) := set_row _ n i 1 hxl hlt
    have hzero := zero_row (accM (A.take i)) n i hlt
    have hrl : (cI (nL (accM (A.take i)) ++ List.replicate (n - i) 0)).length = n := by rw [cI_length, List.length_append, nL_len, List.length_replicate]; omega
    generalize A.getD i false = b at hat hsn
    cases b
    · rw [if_neg (by decide)] at hsn
      rw [← hsn] at hzero
      simp (disch := omega) only [go_sem, ↓IntWalk.iteOmega, IntWalk.toNatUp, Nat.reduceEqDiff, Nat.reduceAdd, Nat.reduceMul, Nat.reduceSub, Nat.reduceLT, Nat.reduceLeDiff, Int.reduceToNat, Int.reduceLT, Int.reduceLE, Int.reduceEq, Int.reduceAdd, Int.reduceSub, Int.reduceMul, Int.toNat_natCast, reduceCtorEq, decide_true, decide_false, IntWalk.i64_in, IntWalk.u64_in, IntWalk.u8_in, h1, h2, h3, h25, h26, h27, o1, o2, o23, o21, hat]
      exact ⟨_, by omega, i + 1, by omega, rfl, rfl, by rw [hzero]⟩
    · rw [if_pos rfl] at hsn
      rw [← hsn] at hset1
      simp (disch := omega) only [go_sem, ↓IntWalk.iteOmega, IntWalk.toNatUp, Nat.reduceEqDiff, Nat.reduceAdd, Nat.reduceMul, Nat.reduceSub, Nat.reduceLT, Nat.reduceLeDiff, Int.reduceToNat, Int.reduceLT, Int.reduceLE, Int.reduceEq, Int.reduceAdd, Int.reduceSub, Int.reduceMul, Int.toNat_natCast, reduceCtorEq, decide_true, decide_false, IntWalk.i64_in, IntWalk.u64_in, IntWalk.u8_in, h1, h2, h3, h25, h26, h27, o1, o2, o23, o21, hat, hset1, hrl]
      exact ⟨_, by omega, i + 1, by omega, rfl, rfl, rfl⟩
  · have hie : i = n := by omega
    subst hie
    rw [Nat.sub_self, List.replicate_zero, List.append_nil, List.take_of_length_le (by omega)] at o21
    have hcl0 : (accM A).length = i := by simp [accM]; omega
    simp (disch := omega) only [go_sem, ↓IntWalk.iteOmega, IntWalk.toNatUp, Nat.reduceEqDiff, Nat.reduceAdd, Nat.reduceMul, Nat.reduceSub, Nat.reduceLT, Nat.reduceLeDiff, Int.reduceToNat, Int.reduceLT, Int.reduceLE, Int.reduceEq, Int.reduceAdd, Int.reduceSub, Int.reduceMul, Int.toNat_natCast, reduceCtorEq, decide_true, decide_false, IntWalk.i64_in, IntWalk.u64_in, IntWalk.u8_in, h1, h2, h3, h25, h26, h27]
    refine WP_loop (fun m a o nx => ∃ (r : Nat) (c' : List Nat) (k q s : Nat) (g : Tag), partF N i r c' k = some c ∧ c'.length = i ∧ m = r ∧ 2 ≤ nx ∧ q < nx ∧ s ∉ [43, 23] ∧ a 1 = .ptr (0, 1) (0, 1) 0 ∧ a 2 = .ptr (0, 2) (0, 2) 0 ∧ a 3 = partsP ∧ a 6 = .int .i64 k ∧ o (0, 1) = some (.row ⟨27, 1, (0, 1), false, true, [.sl i (cI N), .sl i (cB A)]⟩) ∧ o (0, 2) = some (.row ⟨27, 1, (0, 2), false, true, [.nil, .nil]⟩) ∧ o (1, 23) = some (.row ⟨66, 1, (1, 23), false, true, [.sl i (cI N), .sl i (cB A), .ref (q, s) g 0 i]⟩) ∧ o (q, s) = some (.row ⟨3, 1, g, false, true, cI (nL c')⟩)) (i + 2) (by omega)
      ⟨i + 2, accM A, 0, 1, 21, (1, 21), hcls, hcl0, rfl, by omega, by omega, by decide, by simp (disch := omega) only [go_sem, ↓IntWalk.iteOmega, IntWalk.toNatUp, Nat.reduceEqDiff, Nat.reduceAdd, Nat.reduceMul, Nat.reduceSub, Nat.reduceLT, Nat.reduceLeDiff, Int.reduceToNat, Int.reduceLT, Int.reduceLE, Int.reduceEq, Int.reduceAdd, Int.reduceSub, Int.reduceMul, Int.toNat_natCast, reduceCtorEq, decide_true, decide_false, IntWalk.i64_in, IntWalk.u64_in, IntWalk.u8_in, h1], by simp (disch := omega) only [go_sem, ↓IntWalk.iteOmega, IntWalk.toNatUp, Nat.reduceEqDiff, Nat.reduceAdd, Nat.reduceMul, Nat.reduceSub, Nat.reduceLT, Nat.reduceLeDiff, Int.reduceToNat, Int.reduceLT, Int.reduceLE, Int.reduceEq, Int.reduceAdd, Int.reduceSub, Int.reduceMul, Int.toNat_natCast, reduceCtorEq, decide_true, decide_false, IntWalk.i64_in, IntWalk.u64_in, IntWalk.u8_in, h2], by simp (disch := omega) only [go_sem, ↓IntWalk.iteOmega, IntWalk.toNatUp, Nat.reduceEqDiff, Nat.reduceAdd, Nat.reduceMul, Nat.reduceSub, Nat.reduceLT, Nat.reduceLeDiff, Int.reduceToNat, Int.reduceLT, Int.reduceLE, Int.reduceEq, Int.reduceAdd, Int.reduceSub, Int.reduceMul, Int.toNat_natCast, reduceCtorEq, decide_true, decide_false, IntWalk.i64_in, IntWalk.u64_in, IntWalk.u8_in, h3], by simp (disch := omega) only [go_sem, ↓IntWalk.iteOmega, IntWalk.toNatUp, Nat.reduceEqDiff, Nat.reduceAdd, Nat.reduceMul, Nat.reduceSub, Nat.reduceLT, Nat.reduceLeDiff, Int.reduceToNat, Int.reduceLT, Int.reduceLE, Int.reduceEq, Int.reduceAdd, Int.reduceSub, Int.reduceMul, Int.toNat_natCast, reduceCtorEq, decide_true, decide_false, IntWalk.i64_in, IntWalk.u64_in, IntWalk.u8_in], o1, o2, o23, o21⟩ ?_
    clear h1 h2 h3 h25 h26 h27 o1 o2 o23 o21 hcls hcl0 hnx
    rintro m a o nx ⟨r, c', k, q, s, g, hp, hcl', rfl, hnx, hqn, hs, h1, h2, h3, h6, o1, o2, o23, oq⟩
    obtain ⟨r', rfl, hs'⟩ := partF_step hp
    simp (disch := omega) only [go_sem, ↓IntWalk.iteOmega, IntWalk.toNatUp, Nat.reduceEqDiff, Nat.reduceAdd, Nat.reduceMul, Nat.reduceSub, Nat.reduceLT, Nat.reduceLeDiff, Int.reduceToNat, Int.reduceLT, Int.reduceLE, Int.reduceEq, Int.reduceAdd, Int.reduceSub, Int.reduceMul, Int.toNat_natCast, reduceCtorEq, decide_true, decide_false, IntWalk.i64_in, IntWalk.u64_in, IntWalk.u8_in, h1, h2, h3, h6]
    refine finer_call hw hcl' (show q < nx + 1 by omega) hs (by omega) o23 oq fun o' nx' hnx' o23' o15 hkp => ?_
    have o1' := (hkp 0 1 (by omega) (by decide)).trans o1
    have o2' := (hkp 0 2 (by omega) (by decide)).trans o2
    have hl1 := finM_len N c' i
    clear o1 o2 o23 oq hkp hp
    generalize finM N c' i = FX at *
    obtain ⟨F, x⟩ := FX
    dsimp only at hs' hl1 o15
    by_cases he : F.length = k
    · rw [if_pos he] at hs'
      subst hs'
      have he' : ((F.length : Nat) : Int) = (k : Int) := by rw [he]
      have q0 := nL_at (l := x) (i := 0) (s := 1) (by omega)
      rw [List.drop_zero] at q0
      have hup0 : ∀ (tg : Tag) (o : Ob) (nx : Nat) (k : Int), updM tg (.int .i64 k) (.int .i64 0) o nx [] = some ⟨upd o tg (.map [(.int .i64 k, .int .i64 0)]), nx⟩ := fun tg o nx k => updM_eq rfl tg _ o nx
      simp (disch := omega) only [go_sem, ↓IntWalk.iteOmega, IntWalk.toNatUp, Nat.reduceEqDiff, Nat.reduceAdd, Nat.reduceMul, Nat.reduceSub, Nat.reduceLT, Nat.reduceLeDiff, Int.reduceToNat, Int.reduceLT, Int.reduceLE, Int.reduceEq, Int.reduceAdd, Int.reduceSub, Int.reduceMul, Int.toNat_natCast, reduceCtorEq, decide_true, decide_false, IntWalk.i64_in, IntWalk.u64_in, IntWalk.u8_in, h1, h2, h3, h6, he', o23', o15, q0, hup0]
      clear q0 hup0 he' h6
      obtain ⟨b, hb⟩ : ∃ b, b = nx + 1 + 3 := ⟨_, rfl⟩
      rw [← hb] at o23' o15
      have hbn : b < nx' + 1 := by omega
      have hcl2 := hcl
      obtain ⟨cl, hcle⟩ : ∃ cl : Nat → Nat, cl = fun s => x.getD s 0 := ⟨_, rfl⟩
      have hcla : ∀ s, x.getD s 0 = cl s := fun s => by rw [hcle]
      rw [← hcle] at hrun
      replace hcl : ∀ s, cl s < i := fun s => by rw [← hcla]; exact hcl2 s
      refine WP_loop (fun mm a o nx => ∃ (r j : Nat) (L R : List Nat) (g : Tag) (vN vA : AV), goC cl (nxOf N) r j L R = some P ∧ mm = r ∧ j ≤ L.length ∧ 1 ≤ L.length ∧ DistC cl L ∧ R.length = j * 5 ∧ (∀ s ∈ L, s < i) ∧ nx' + 4 ≤ nx ∧
          o (0, 1) = some (.row ⟨27, 1, (0, 1), false, true, [.sl i (cI N), .sl i (cB A)]⟩) ∧ o (0, 2) = some (.row ⟨27, 1, (0, 2), false, true, [.nil, .nil]⟩) ∧ o (nx' + 1, 8) = some (.row ⟨27, 1, (nx' + 1, 8), false, true, [vN, vA]⟩) ∧
          o (1, 23) = some (.row ⟨66, 1, (1, 23), false, true, [.sl i (cI N), .sl i (cB A), .ref (b, 15) (b, 15) 0 i]⟩) ∧ o (b, 15) = some (.row ⟨3, 1, (b, 15), false, true, cI (nL x)⟩) ∧
          o (nx' + 1 + 1, 46) = some (.map (mapFrom cl 0 L)) ∧ o (nx' + 1 + 1 + 1, 54) = some (.row ⟨3, 1, g, false, true, cI (nL L)⟩) ∧ HS 54 5 110 o nx vN j (cI (nL R)) ∧ HS 4 1 122 o nx vA j (cB (accL A (L.take j))) ∧
          a 1 = .ptr (0, 1) (0, 1) 0 ∧ a 2 = .ptr (0, 2) (0, 2) 0 ∧ a 3 = partsP ∧ a 8 = .ptr (nx' + 1, 8) (nx' + 1, 8) 0 ∧ a 9 = .mp (nx' + 1 + 1, 46) ∧ a 10 = .ref (nx' + 1 + 1 + 1, 54) g 0 L.length ∧ a 11 = .int .i64 j) (i + 2) (by omega)
        ⟨i + 2, 0, [0], [], (nx' + 1 + 1 + 1, 54), .nil, .nil, hrun, rfl, by simp, by simp, distC_one _ 0, rfl, fun s hs => (by rw [List.mem_singleton.1 hs]; omega), by omega, ?_, ?_, ?_, ?_, ?_, ?_, ?_, HS.nil, HS.nil, ?_, ?_, ?_, ?_, ?_, ?_, ?_⟩ ?_
      · simp (disch := omega) only [go_sem, ↓IntWalk.iteOmega, IntWalk.toNatUp, Nat.reduceEqDiff, Nat.reduceAdd, Nat.reduceMul, Nat.reduceSub, Nat.reduceLT, Nat.reduceLeDiff, Int.reduceToNat, Int.reduceLT, Int.reduceLE, Int.reduceEq, Int.reduceAdd, Int.reduceSub, Int.reduceMul, Int.toNat_natCast, reduceCtorEq, decide_true, decide_false, IntWalk.i64_in, IntWalk.u64_in, IntWalk.u8_in, o1']
      · simp (disch := omega) only [go_sem, ↓IntWalk.iteOmega, IntWalk.toNatUp, Nat.reduceEqDiff, Nat.reduceAdd, Nat.reduceMul, Nat.reduceSub, Nat.reduceLT, Nat.reduceLeDiff, Int.reduceToNat, Int.reduceLT, Int.reduceLE, Int.reduceEq, Int.reduceAdd, Int.reduceSub, Int.reduceMul, Int.toNat_natCast, reduceCtorEq, decide_true, decide_false, IntWalk.i64_in, IntWalk.u64_in, IntWalk.u8_in, o2']
      · simp (disch := omega) only [go_sem, ↓IntWalk.iteOmega, IntWalk.toNatUp, Nat.reduceEqDiff, Nat.reduceAdd, Nat.reduceMul, Nat.reduceSub, Nat.reduceLT, Nat.reduceLeDiff, Int.reduceToNat, Int.reduceLT, Int.reduceLE, Int.reduceEq, Int.reduceAdd, Int.reduceSub, Int.reduceMul, Int.toNat_natCast, reduceCtorEq, decide_true, decide_false, IntWalk.i64_in, IntWalk.u64_in, IntWalk.u8_in]
      · simp (disch := omega) only [go_sem, ↓IntWalk.iteOmega, IntWalk.toNatUp, Nat.reduceEqDiff, Nat.reduceAdd, Nat.reduceMul, Nat.reduceSub, Nat.reduceLT, Nat.reduceLeDiff, Int.reduceToNat, Int.reduceLT, Int.reduceLE, Int.reduceEq, Int.reduceAdd, Int.reduceSub, Int.reduceMul, Int.toNat_natCast, reduceCtorEq, decide_true, decide_false, IntWalk.i64_in, IntWalk.u64_in, IntWalk.u8_in, o23']
      · simp (disch := omega) only [go_sem, ↓IntWalk.iteOmega, IntWalk.toNatUp, Nat.reduceEqDiff, Nat.reduceAdd, Nat.reduceMul, Nat.reduceSub, Nat.reduceLT, Nat.reduceLeDiff, Int.reduceToNat, Int.reduceLT, Int.reduceLE, Int.reduceEq, Int.reduceAdd, Int.reduceSub, Int.reduceMul, Int.toNat_natCast, reduceCtorEq, decide_true, decide_false, IntWalk.i64_in, IntWalk.u64_in, IntWalk.u8_in, o15]
      · simp (disch := omega) only [go_sem, ↓IntWalk.iteOmega, IntWalk.toNatUp, Nat.reduceEqDiff, Nat.reduceAdd, Nat.reduceMul, Nat.reduceSub, Nat.reduceLT, Nat.reduceLeDiff, Int.reduceToNat, Int.reduceLT, Int.reduceLE, Int.reduceEq, Int.reduceAdd, Int.reduceSub, Int.reduceMul, Int.toNat_natCast, reduceCtorEq, decide_true, decide_false, IntWalk.i64_in, IntWalk.u64_in, IntWalk.u8_in]
        rw [hcla]
        rfl
      · simp (disch := omega) only [go_sem, ↓IntWalk.iteOmega, IntWalk.toNatUp, Nat.reduceEqDiff, Nat.reduceAdd, Nat.reduceMul, Nat.reduceSub, Nat.reduceLT, Nat.reduceLeDiff, Int.reduceToNat, Int.reduceLT, Int.reduceLE, Int.reduceEq, Int.reduceAdd, Int.reduceSub, Int.reduceMul, Int.toNat_natCast, reduceCtorEq, decide_true, decide_false, IntWalk.i64_in, IntWalk.u64_in, IntWalk.u8_in]
        rfl
      · simp (disch := omega) only [go_sem, ↓IntWalk.iteOmega, IntWalk.toNatUp, Nat.reduceEqDiff, Nat.reduceAdd, Nat.reduceMul, Nat.reduceSub, Nat.reduceLT, Nat.reduceLeDiff, Int.reduceToNat, Int.reduceLT, Int.reduceLE, Int.reduceEq, Int.reduceAdd, Int.reduceSub, Int.reduceMul, Int.toNat_natCast, reduceCtorEq, decide_true, decide_false, IntWalk.i64_in, IntWalk.u64_in, IntWalk.u8_in, h1]
      · simp (disch := omega) only [go_sem, ↓IntWalk.iteOmega, IntWalk.toNatUp, Nat.reduceEqDiff, Nat.reduceAdd, Nat.reduceMul, Nat.reduceSub, Nat.reduceLT, Nat.reduceLeDiff, Int.reduceToNat, Int.reduceLT, Int.reduceLE, Int.reduceEq, Int.reduceAdd, Int.reduceSub, Int.reduceMul, Int.toNat_natCast, reduceCtorEq, decide_true, decide_false, IntWalk.i64_in, IntWalk.u64_in, IntWalk.u8_in, h2]
      · simp (disch := omega) only [go_sem, ↓IntWalk.iteOmega, IntWalk.toNatUp, Nat.reduceEqDiff, Nat.reduceAdd, Nat.reduceMul, Nat.reduceSub, Nat.reduceLT, Nat.reduceLeDiff, Int.reduceToNat, Int.reduceLT, Int.reduceLE, Int.reduceEq, Int.reduceAdd, Int.reduceSub, Int.reduceMul, Int.toNat_natCast, reduceCtorEq, decide_true, decide_false, IntWalk.i64_in, IntWalk.u64_in, IntWalk.u8_in, h3]
      · simp (disch := omega) only [go_sem, ↓IntWalk.iteOmega, IntWalk.toNatUp, Nat.reduceEqDiff, Nat.reduceAdd, Nat.reduceMul, Nat.reduceSub, Nat.reduceLT, Nat.reduceLeDiff, Int.reduceToNat, Int.reduceLT, Int.reduceLE, Int.reduceEq, Int.reduceAdd, Int.reduceSub, Int.reduceMul, Int.toNat_natCast, reduceCtorEq, decide_true, decide_false, IntWalk.i64_in, IntWalk.u64_in, IntWalk.u8_in]
      · simp (disch := omega) only [go_sem, ↓IntWalk.iteOmega, IntWalk.toNatUp, Nat.reduceEqDiff, Nat.reduceAdd, Nat.reduceMul, Nat.reduceSub, Nat.reduceLT, Nat.reduceLeDiff, Int.reduceToNat, Int.reduceLT, Int.reduceLE, Int.reduceEq, Int.reduceAdd, Int.reduceSub, Int.reduceMul, Int.toNat_natCast, reduceCtorEq, decide_true, decide_false, IntWalk.i64_in, IntWalk.u64_in, IntWalk.u8_in]
      · simp (disch := omega) only [go_sem, ↓IntWalk.iteOmega, IntWalk.toNatUp, Nat.reduceEqDiff, Nat.reduceAdd, Nat.reduceMul, Nat.reduceSub, Nat.reduceLT, Nat.reduceLeDiff, Int.reduceToNat, Int.reduceLT, Int.reduceLE, Int.reduceEq, Int.reduceAdd, Int.reduceSub, Int.reduceMul, Int.toNat_natCast, reduceCtorEq, decide_true, decide_false, IntWalk.i64_in, IntWalk.u64_in, IntWalk.u8_in]
      · simp (disch := omega) only [go_sem, ↓IntWalk.iteOmega, IntWalk.toNatUp, Nat.reduceEqDiff, Nat.reduceAdd, Nat.reduceMul, Nat.reduceSub, Nat.reduceLT, Nat.reduceLeDiff, Int.reduceToNat, Int.reduceLT, Int.reduceLE, Int.reduceEq, Int.reduceAdd, Int.reduceSub, Int.reduceMul, Int.toNat_natCast, reduceCtorEq, decide_true, decide_false, IntWalk.i64_in, IntWalk.u64_in, IntWalk.u8_in]
      clear hrun o1' o2' o23' o15 h1 h2 h3
      rintro mm a o nx ⟨r, j, L, R, g, vN, vA, hG, rfl, hj, hL1, hD, hRl, hLn, hnx4, ho1, ho2, ho8, ho23, ho15, ho46, ho54, hvN, hvA, h1, h2, h3, h8, h9, h10, h11⟩
      obtain ⟨r', rfl, hG'⟩ := goC_succ hG
      clear hG
      by_cases hlt : j < L.length
      · rcases hG' with ⟨hx, _⟩ | ⟨y, hx, hG⟩
        · have := List.getElem?_eq_none_iff.1 hx; omega
        have hyn := hLn y (List.mem_of_getElem? hx)
        have hpre := fun m => (rowC_ok (nx := nxOf N) (x := y) hD m)
        have hall := fun m (hm : m ≤ 5) => rowC_all (cl := cl) (nx := nxOf N) (x := y) (p := fun s => s < i) hLn m (fun j hj => by rw [← hA]; exact hO.next (by omega) (by omega))
        have hLc : L.length ≤ i := distC_le hcl hD
        obtain ⟨row, hrw', hrow, htl, hok, htt, hl5⟩ := row_facts hN hyn
        have q1 := nL_at (s := 1) hlt
        rw [getD_of hx] at q1
        simp (disch := omega) only [go_sem, ↓IntWalk.iteOmega, IntWalk.toNatUp, Nat.reduceEqDiff, Nat.reduceAdd, Nat.reduceMul, Nat.reduceSub, Nat.reduceLT, Nat.reduceLeDiff, Int.reduceToNat, Int.reduceLT, Int.reduceLE, Int.reduceEq, Int.reduceAdd, Int.reduceSub, Int.reduceMul, Int.toNat_natCast, reduceCtorEq, decide_true, decide_false, IntWalk.i64_in, IntWalk.u64_in, IntWalk.u8_in, nzMn, h1, h2, h3, h8, h9, h10, h11, ho1, ho54, q1, hrw', htl, hok, htt, hl5]
        clear q1
        refine WP_loop (fun mm a o' nx'' => ∃ (m : Nat) (g' : Tag), m ≤ 5 ∧ mm = 5 - m ∧ nx + 3 ≤ nx'' ∧ Frz [1, 2, 8, 23, 15, 110, 122] nx o o' ∧
          o' (nx' + 1 + 1, 46) = some (.map (mapFrom cl 0 (rowC cl (nxOf N) y m L).2)) ∧ o' (nx' + 1 + 1 + 1, 54) = some (.row ⟨3, 1, g', false, true, cI (nL (rowC cl (nxOf N) y m L).2)⟩) ∧
          o' (nx + 1, 12) = some (.row ⟨54, 1, (nx + 1, 12), false, true, cI (nL (rowC cl (nxOf N) y m L).1 ++ List.replicate (5 - m) 0)⟩) ∧
          a 1 = .ptr (0, 1) (0, 1) 0 ∧ a 2 = .ptr (0, 2) (0, 2) 0 ∧ a 3 = partsP ∧ a 8 = .ptr (nx' + 1, 8) (nx' + 1, 8) 0 ∧ a 9 = .mp (nx' + 1 + 1, 46) ∧ a 10 = .ref (nx' + 1 + 1 + 1, 54) g' 0 (rowC cl (nxOf N) y m L).2.length ∧ a 11 = .int .i64 j ∧ a 12 = .ptr (nx + 1, 12) (nx + 1, 12) 0 ∧ a 68 = .agg row ∧ a 69 = .int .i64 m) 5 (by omega)
          ⟨0, g, by omega, by omega, by omega, (Frz.refl _ _ _).upd (.inl (by omega)), by rw [upd_fst (by omega)]; exact ho46, by rw [upd_fst (by omega)]; exact ho54, upd_same _ _ _, by simp (disch := omega) only [go_sem, ↓IntWalk.iteOmega, IntWalk.toNatUp, Nat.reduceEqDiff, Nat.reduceAdd, Nat.reduceMul, Nat.reduceSub, Nat.reduceLT, Nat.reduceLeDiff, Int.reduceToNat, Int.reduceLT, Int.reduceLE, Int.reduceEq, Int.reduceAdd, Int.reduceSub, Int.reduceMul, Int.toNat_natCast, reduceCtorEq, decide_true, decide_false, IntWalk.i64_in, IntWalk.u64_in, IntWalk.u8_in, h1], by simp (disch := omega) only [go_sem, ↓IntWalk.iteOmega, IntWalk.toNatUp, Nat.reduceEqDiff, Nat.reduceAdd, Nat.reduceMul, Nat.reduceSub, Nat.reduceLT, Nat.reduceLeDiff, Int.reduceToNat, Int.reduceLT, Int.reduceLE, Int.reduceEq, Int.reduceAdd, Int.reduceSub, Int.reduceMul, Int.toNat_natCast, reduceCtorEq, decide_true, decide_false, IntWalk.i64_in, IntWalk.u64_in, IntWalk.u8_in, h2], by simp (disch := omega) only [go_sem, ↓IntWalk.iteOmega, IntWalk.toNatUp, Nat.reduceEqDiff, Nat.reduceAdd, Nat.reduceMul, Nat.reduceSub, Nat.reduceLT, Nat.reduceLeDiff, Int.reduceToNat, Int.reduceLT, Int.reduceLE, Int.reduceEq, Int.reduceAdd, Int.reduceSub, Int.reduceMul, Int.toNat_natCast, reduceCtorEq, decide_true, decide_false, IntWalk.i64_in, IntWalk.u64_in, IntWalk.u8_in, h3], by simp (disch := omega) only [go_sem, ↓IntWalk.iteOmega, IntWalk.toNatUp, Nat.reduceEqDiff, Nat.reduceAdd, Nat.reduceMul, Nat.reduceSub, Nat.reduceLT, Nat.reduceLeDiff, Int.reduceToNat, Int.reduceLT, Int.reduceLE, Int.reduceEq, Int.reduceAdd, Int.reduceSub, Int.reduceMul, Int.toNat_natCast, reduceCtorEq, decide_true, decide_false, IntWalk.i64_in, IntWalk.u64_in, IntWalk.u8_in, h8], by simp (disch := omega) only [go_sem, ↓IntWalk.iteOmega, IntWalk.toNatUp, Nat.reduceEqDiff, Nat.reduceAdd, Nat.reduceMul, Nat.reduceSub, Nat.reduceLT, Nat.reduceLeDiff, Int.reduceToNat, Int.reduceLT, Int.reduceLE, Int.reduceEq, Int.reduceAdd, Int.reduceSub, Int.reduceMul, Int.toNat_natCast, reduceCtorEq, decide_true, decide_false, IntWalk.i64_in, IntWalk.u64_in, IntWalk.u8_in, h9], by simp (disch := omega) only [go_sem, ↓IntWalk.iteOmega, IntWalk.toNatUp, Nat.reduceEqDiff, Nat.reduceAdd, Nat.reduceMul, Nat.reduceSub, Nat.reduceLT, Nat.reduceLeDiff, Int.reduceToNat, Int.reduceLT, Int.reduceLE, Int.reduceEq, Int.reduceAdd, Int.reduceSub, Int.reduceMul, Int.toNat_natCast, reduceCtorEq, decide_true, decide_false, IntWalk.i64_in, IntWalk.u64_in, IntWalk.u8_in, h10]; rfl, by simp (disch := omega) only [go_sem, ↓IntWalk.iteOmega, IntWalk.toNatUp, Nat.reduceEqDiff, Nat.reduceAdd, Nat.reduceMul, Nat.reduceSub, Nat.reduceLT, Nat.reduceLeDiff, Int.reduceToNat, Int.reduceLT, Int.reduceLE, Int.reduceEq, Int.reduceAdd, Int.reduceSub, Int.reduceMul, Int.toNat_natCast, reduceCtorEq, decide_true, decide_false, IntWalk.i64_in, IntWalk.u64_in, IntWalk.u8_in, h11], by simp (disch := omega) only [go_sem, ↓IntWalk.iteOmega, IntWalk.toNatUp, Nat.reduceEqDiff, Nat.reduceAdd, Nat.reduceMul, Nat.reduceSub, Nat.reduceLT, Nat.reduceLeDiff, Int.reduceToNat, Int.reduceLT, Int.reduceLE, Int.reduceEq, Int.reduceAdd, Int.reduceSub, Int.reduceMul, Int.toNat_natCast, reduceCtorEq, decide_true, decide_false, IntWalk.i64_in, IntWalk.u64_in, IntWalk.u8_in], by simp (disch := omega) only [go_sem, ↓IntWalk.iteOmega, IntWalk.toNatUp, Nat.reduceEqDiff, Nat.reduceAdd, Nat.reduceMul, Nat.reduceSub, Nat.reduceLT, Nat.reduceLeDiff, Int.reduceToNat, Int.reduceLT, Int.reduceLE, Int.reduceEq, Int.reduceAdd, Int.reduceSub, Int.reduceMul, Int.toNat_natCast, reduceCtorEq, decide_true, decide_false, IntWalk.i64_in, IntWalk.u64_in, IntWalk.u8_in], by simp (disch := omega) only [go_sem, ↓IntWalk.iteOmega, IntWalk.toNatUp, Nat.reduceEqDiff, Nat.reduceAdd, Nat.reduceMul, Nat.reduceSub, Nat.reduceLT, Nat.reduceLeDiff, Int.reduceToNat, Int.reduceLT, Int.reduceLE, Int.reduceEq, Int.reduceAdd, Int.reduceSub, Int.reduceMul, Int.toNat_natCast, reduceCtorEq, decide_true, decide_false, IntWalk.i64_in, IntWalk.u64_in, IntWalk.u8_in]⟩ ?_
        clear h1 h2 h3 h8 h9 h10 h11 ho46 ho54
        rintro mm a o' nx'' ⟨m, g', hm, rfl, hnx'', hkp, ho46, ho54, ho12, h1, h2, h3, h8, h9, h10, h11, h12, h68, h69⟩
        have ho1' := (hkp 0 1 (by omega) (by decide)).trans ho1
        have ho2' := (hkp 0 2 (by omega) (by decide)).trans ho2
        have ho8' := (hkp (nx' + 1) 8 (by omega) (by decide)).trans ho8
        have ho23' := (hkp 1 23 (by omega) (by decide)).trans ho23
        have ho15' := (hkp b 15 (by omega) (by decide)).trans ho15
        obtain ⟨hD', hpr, hRl', _⟩ := hpre m
        have hx' := hpr j y hx
        have hLn' := hall m hm
        have hLc' := distC_le hcl hD'
        by_cases hm5 : m < 5
        · have hsucc : rowC cl (nxOf N) y (m + 1) L = ((rowC cl (nxOf N) y m L).1 ++ [(metC cl (rowC cl (nxOf N) y m L).2 (nxOf N y m)).1], (metC cl (rowC cl (nxOf N) y m L).2 (nxOf N y m)).2) := rfl
          have hent := hO.e (y * 5 + m) (by omega)
          have hto : N.getD (y * 5 + m) 0 = ((nxOf N y m : Nat) : Int) := by unfold nxOf; omega
          have hton : nxOf N y m < i := by rw [← hA]; exact hO.next (by omega) hm5
          have q2 := hrow m hm5
          rw [hto] at q2
          generalize nxOf N y m = to at *
          generalize (rowC cl (nxOf N) y m L).1 = R' at *
          generalize (rowC cl (nxOf N) y m L).2 = L' at *
          have q3 := nL_at (l := x) (i := to) (s := 1) (by omega)
          rw [hcla] at q3
          have hfd := findA_from cl (cl to) L' 0
          have hset := fun k => set_row R' 5 m k hRl' hm5
          have hl12 : (cI (nL R' ++ List.replicate (5 - m) 0)).length = 5 := by rw [cI_length, List.length_append, nL_len, List.length_replicate]; omega
          unfold metC at hsucc
          cases hfi : L'.findIdx? (fun s => cl s == cl to) with
          | some k =>
            rw [hfi] at hfd hsucc
            dsimp only at hsucc
            simp only [Option.map_some, Nat.zero_add] at hfd
            simp (disch := omega) only [go_sem, ↓IntWalk.iteOmega, IntWalk.toNatUp, Nat.reduceEqDiff, Nat.reduceAdd, Nat.reduceMul, Nat.reduceSub, Nat.reduceLT, Nat.reduceLeDiff, Int.reduceToNat, Int.reduceLT, Int.reduceLE, Int.reduceEq, Int.reduceAdd, Int.reduceSub, Int.reduceMul, Int.toNat_natCast, reduceCtorEq, decide_true, decide_false, IntWalk.i64_in, IntWalk.u64_in, IntWalk.u8_in, nzMn, h1, h2, h3, h8, h9, h10, h11, h12, h68, h69, ho23', ho15', ho46, ho12, q2, q3, hfd, hset, hl12]
            exact ⟨5 - (m + 1), by omega, m + 1, g', by omega, rfl, by omega, hkp.upd (.inl (by omega)), by rw [hsucc], by rw [hsucc]; exact ho54, by rw [hsucc], by rw [hsucc], rfl⟩
          | none =>
            have hmn := map_new hfi
            rw [hfi] at hfd hsucc
            dsimp only at hsucc
            simp only [Option.map_none] at hfd
            have hup : ∀ (o : Ob) (nx : Nat), updM (nx' + 1 + 1, 46) (.int .i64 (cl to : Nat)) (.int .i64 (L'.length : Nat)) o nx (mapFrom cl 0 L') = some ⟨upd o (nx' + 1 + 1, 46) (.map (mapFrom cl 0 (L' ++ [to]))), nx⟩ := fun o nx => by rw [updM_eq hfd, hmn]
            have hkl : (cI (nL L')).take L'.length = cI (nL L') := take_len (by rw [cI_length, nL_len])
            simp (disch := omega) only [go_sem, ↓IntWalk.iteOmega, IntWalk.toNatUp, Nat.reduceEqDiff, Nat.reduceAdd, Nat.reduceMul, Nat.reduceSub, Nat.reduceLT, Nat.reduceLeDiff, Int.reduceToNat, Int.reduceLT, Int.reduceLE, Int.reduceEq, Int.reduceAdd, Int.reduceSub, Int.reduceMul, Int.toNat_natCast, reduceCtorEq, decide_true, decide_false, IntWalk.i64_in, IntWalk.u64_in, IntWalk.u8_in, nzMn, h1, h2, h3, h8, h9, h10, h11, h12, h68, h69, ho23', ho15', ho46, ho54, ho12, q2, q3, hfd, hset, hl12, hup, hkl, nL_len]
            exact ⟨5 - (m + 1), by omega, m + 1, (nx'' + 1 + 1 + 1 + 1 + 1 + 1, 101), by omega, rfl, by omega, (((hkp.upd (.inr (by decide))).upd (.inr (by decide))).upd (.inr (by decide))).upd (.inl (by omega)), by rw [hsucc], by rw [hsucc]; simp [nL, cI], by rw [hsucc], by rw [hsucc]; simp, rfl⟩
        · have hme : m = 5 := by omega
          subst hme
          have hLi : accL A ((rowC cl (nxOf N) y 5 L).2.take (j + 1)) = accL A (L.take j) ++ [A.getD y false] := by
            rw [List.take_add_one, hx']
            have : (rowC cl (nxOf N) y 5 L).2.take j = L.take j := by
              refine List.ext_getElem? fun k => ?_
              rw [List.getElem?_take, List.getElem?_take]
              by_cases hk : k < j
              · rw [if_pos hk, if_pos hk, hpr k _ (List.getElem?_eq_getElem (show k < L.length by omega)), List.getElem?_eq_getElem (show k < L.length by omega)]
              · rw [if_neg hk, if_neg hk]
            rw [this]
            simp
          have hltL : j < (rowC cl (nxOf N) y 5 L).2.length := (List.getElem?_eq_some_iff.1 hx').1
          generalize (rowC cl (nxOf N) y 5 L).1 = R' at *
          generalize (rowC cl (nxOf N) y 5 L).2 = L' at *
          have q1 := nL_at (s := 1) hltL
          rw [getD_of hx'] at q1
          have q2 := cB_get (l := A) (i := y) (s := 1) (by omega)
          have hvN' := hvN.keep (fun j hj => hkp j 110 hj (by decide)) (show nx ≤ nx'' by omega)
          have hvA' := hvA.keep (fun j hj => hkp j 122 hj (by decide)) (show nx ≤ nx'' by omega)
          rw [Nat.sub_self, List.replicate_zero, List.append_nil] at ho12
          have hl6 : (cI (nL R')).length = 5 := by rw [cI_length, nL_len, hRl']
          have htk5 : (cI (nL R')).take 5 = cI (nL R') := take_len hl6
          have hok5 := cI_ok (nL R')
          obtain ⟨j8, hj8, hap8⟩ := hvN'.app (nx'' + 1) 40 1 (cI (nL R')) (by omega) (by rw [hl6]) hok5 (by simp only [maxB]; omega)
          obtain ⟨j9, hj9, hap9⟩ := hvA'.app (nx'' + 1) 1 1 [.bool (A.getD y false)] (by omega) rfl rfl (by simp only [maxB]; omega)
          have hRR : cI (nL (R ++ R')) = cI (nL R) ++ cI (nL R') := by rw [nL_app, cI_app]
          have hokN := hvN'.ok
          have hokA := hvA'.ok
          have htN := hvN'.tagAll
          have htA := hvA'.tagAll
          have hnN := hvN'.ninOf
          have hnA := hvA'.ninOf
          have hlR : (cI (nL R)).length = j * 5 := by rw [cI_length, nL_len, hRl]
          have hlAc : (cB (accL A (L.take j))).length = j * 1 := by rw [cB_length, List.length_map, List.length_take]; omega
          simp (disch := first | omega | (intro _; simp (disch := omega) only [go_sem, ↓IntWalk.iteOmega, IntWalk.toNatUp, Nat.reduceEqDiff, Nat.reduceAdd, Nat.reduceMul, Nat.reduceSub, Nat.reduceLT, Nat.reduceLeDiff, Int.reduceToNat, Int.reduceLT, Int.reduceLE, Int.reduceEq, Int.reduceAdd, Int.reduceSub, Int.reduceMul, Int.toNat_natCast, reduceCtorEq, decide_true, decide_false, IntWalk.i64_in, IntWalk.u64_in, IntWalk.u8_in, nzMn, h1, h2, h3, h8, h9, h10, h11, h12, h68, h69, ho1', ho8', ho12, ho54, q1, q2, hl6, htk5, hok5, hap8, hap9, hokN, hokA])) only [go_sem, ↓IntWalk.iteOmega, IntWalk.toNatUp, Nat.reduceEqDiff, Nat.reduceAdd, Nat.reduceMul, Nat.reduceSub, Nat.reduceLT, Nat.reduceLeDiff, Int.reduceToNat, Int.reduceLT, Int.reduceLE, Int.reduceEq, Int.reduceAdd, Int.reduceSub, Int.reduceMul, Int.toNat_natCast, reduceCtorEq, decide_true, decide_false, IntWalk.i64_in, IntWalk.u64_in, IntWalk.u8_in, nzMn, h1, h2, h3, h8, h9, h10, h11, h12, h68, h69, ho1', ho8', ho12, ho54, q1, q2, hl6, htk5, hok5, hap8, hap9, hokN, hokA]
          refine ⟨?_, r', by omega, r', j + 1, L', R ++ R', g', _, _, hG, rfl, by omega, by omega, hD', by rw [List.length_append, hRl, hRl']; omega, hLn', by omega, ho2', rfl, ho23', ho15', ho46, rfl, ?_, ?_, rfl, rfl⟩
          · rcases hvN' with ⟨rfl, _, _⟩ | ⟨q, g2, rfl, _, _, _⟩ <;> rcases hvA' with ⟨rfl, _, _⟩ | ⟨q', g2', rfl, _, _, _⟩ <;> simp (disch := omega) only [go_sem, ↓IntWalk.iteOmega, IntWalk.toNatUp, Nat.reduceEqDiff, Nat.reduceAdd, Nat.reduceMul, Nat.reduceSub, Nat.reduceLT, Nat.reduceLeDiff, Int.reduceToNat, Int.reduceLT, Int.reduceLE, Int.reduceEq, Int.reduceAdd, Int.reduceSub, Int.reduceMul, Int.toNat_natCast, reduceCtorEq, decide_true, decide_false, IntWalk.i64_in, IntWalk.u64_in, IntWalk.u8_in]
          · rw [hRR]
            exact HS.grown (m := 1) (by omega) (by simp [upd_app]) hlR (by rw [hl6])
          · rw [hLi, cB_app]
            exact HS.grown (m := 1) (new := [.bool (A.getD y false)]) (by omega) (by simp [upd_app]) hlAc rfl
      · rcases hG' with ⟨hx, hP⟩ | ⟨y, hx, _⟩
        · subst hP
          have hie : j = L.length := by omega
          subst hie
          rw [List.take_length] at hvA
          have hlc := distC_le hcl hD
          have hc5 := XMz_5 (n := L.length) (N := nL R) (by omega) (by omega) (by rw [nL_len]; omega)
          have hcb := XMz_b (n := L.length) (A := accL A L) (by omega) (by omega) (by simp)
          have e1 : ∀ o'' : Ob, (∀ i, o'' (i, 110) = o (i, 110)) → view o'' 1012 vN = .sl L.length (cI (nL R)) := fun o'' h => by rw [(hvN.keep (fun i _ => h i) (Nat.le_refl _)).view 1011, view_cI]
          have e2 : ∀ o'' : Ob, (∀ i, o'' (i, 122) = o (i, 122)) → view o'' 1012 vA = .sl L.length (cB (accL A L)) := fun o'' h => by rw [(hvA.keep (fun i _ => h i) (Nat.le_refl _)).view 1011, view_cB]
          have e3 := hvN.ok
          have e4 := hvA.ok
          have e5 := fun i j h => hvN.nin 1011 (tags_cI o 1011 (nL R)) (i := i) (j := j) h
          have e6 : ∀ (o'' : Ob) (i j : Nat), (∀ i, o'' (i, 122) = o (i, 122)) → j ≠ 122 → nin (i, j) (viewTags o'' 1012 vA) = true := fun o'' i j ho hj => (hvA.keep (fun i _ => ho i) (Nat.le_refl _)).nin 1011 (tags_cB o'' 1011 (accL A L)) hj
          have e7 : ∀ p : Tag → Bool, (∀ i, p (i, 110) = true) → (viewTags o 1012 vN).all p = true := fun p hp => List.all_eq_true.2 fun t ht => by
            have := hvN.tags 1011 (tags_cI o 1011 (nL R)) t ht
            obtain ⟨i, j⟩ := t
            dsimp only at this
            subst this
            exact hp i
          simp (disch := first | omega | (intro _; simp (disch := omega) only [go_sem, ↓IntWalk.iteOmega, IntWalk.toNatUp, Nat.reduceEqDiff, Nat.reduceAdd, Nat.reduceMul, Nat.reduceSub, Nat.reduceLT, Nat.reduceLeDiff, Int.reduceToNat, Int.reduceLT, Int.reduceLE, Int.reduceEq, Int.reduceAdd, Int.reduceSub, Int.reduceMul, Int.toNat_natCast, reduceCtorEq, decide_true, decide_false, IntWalk.i64_in, IntWalk.u64_in, IntWalk.u8_in, nzMn, h1, h2, h3, h8, h9, h10, h11, ho2, ho8, ho54, e1, e2, e3, e4, e5, e6, e7, hc5, hcb, nin_app, List.append_nil])) only [go_sem, ↓IntWalk.iteOmega, IntWalk.toNatUp, Nat.reduceEqDiff, Nat.reduceAdd, Nat.reduceMul, Nat.reduceSub, Nat.reduceLT, Nat.reduceLeDiff, Int.reduceToNat, Int.reduceLT, Int.reduceLE, Int.reduceEq, Int.reduceAdd, Int.reduceSub, Int.reduceMul, Int.toNat_natCast, reduceCtorEq, decide_true, decide_false, IntWalk.i64_in, IntWalk.u64_in, IntWalk.u8_in, nzMn, h1, h2, h3, h8, h9, h10, h11, ho2, ho8, ho54, e1, e2, e3, e4, e5, e6, e7, hc5, hcb, nin_app, List.append_nil]
        · have := (List.getElem?_eq_some_iff.1 hx).1; omega
    · rw [if_neg he] at hs'
      have he' : ¬ ((F.length : Nat) : Int) = (k : Int) := by omega
      simp (disch := omega) only [go_sem, ↓IntWalk.iteOmega, IntWalk.toNatUp, Nat.reduceEqDiff, Nat.reduceAdd, Nat.reduceMul, Nat.reduceSub, Nat.reduceLT, Nat.reduceLeDiff, Int.reduceToNat, Int.reduceLT, Int.reduceLE, Int.reduceEq, Int.reduceAdd, Int.reduceSub, Int.reduceMul, Int.toNat_natCast, reduceCtorEq, decide_true, decide_false, IntWalk.i64_in, IntWalk.u64_in, IntWalk.u8_in, h1, h2, h3, h6, he']
      exact ⟨r', by omega, r', x, F.length, nx + 1 + 3, 15, _, hs', hl1, rfl, by omega, by decide, rfl, o1', o2', o23', o15⟩
theorem mmin_ok {n : Nat} {N : List Int} {A : List Bool} (hw : WfD n N A) : Ok Tryd.prog 16 [dfaV n N A] (dfaV (minA N A).length (minN N A) (minA N A)) := by
  refine ok_of_WP (E := EX md0 XMz) (cr := crMn) XMz_ok crMn_ok mixed (k := 2005) Tryd.func16 lookMn rfl (WP_mono (min_wp hw) ?_)
  rintro u a o nx ⟨rfl, h⟩
  refine ⟨.inr rfl, ?_⟩
  simp only [Tryd.f16, resultsL_cons, resultsL_nil, result1_cell, result1_tmp]
  cases hl : aLoad Tryd.prog 27 (a 2) ⟨o, nx⟩ with
  | none =>
    rw [hl] at h
    cases h
  | some v =>
    rw [hl] at h
    show wO (consO (aLoad Tryd.prog 27 (a 2) ⟨o, nx⟩) (some [])) _
    rw [hl]
    exact h
theorem RMin_mini (args r) (h : RMin args r) : Ok Tryd.prog 16 args r := by obtain ⟨n, N, A, h1, rfl, rfl⟩ := h; exact mmin_ok h1
end Go.Proofs.YtpmjpogcaglphaaDoor.A
/- Whether two machines are one: the program, the document. -/
namespace Go.Proofs.YtpmjpogcaglphaaDoor.A
open Go
set_option maxRecDepth 20000
theorem five_eql {x y : List Int} (hx : x.length = 5) (hy : y.length = 5) : aBin Tryd.prog .eql 54 (.agg (cI x)) (.agg (cI y)) = some (.bool (decide (x = y))) := by
  rw [aggE, T54lf]
  have := eqLeafs_ints x y (by omega)
  rw [hx] at this
  show (eqLeafs (List.replicate 5 .int) (cI x) (cI y)).map AV.bool = _
  rw [this]
  rfl
theorem aggNe (P : Program) (t : TypeId) (x y : List AV) : aBin P .neq t (.agg x) (.agg y) = (eqLeaves P t).bind fun l => (eqLeafs l x y).map fun z => .bool (!z) := rfl
theorem five_neq {x y : List Int} (hx : x.length = 5) (hy : y.length = 5) : aBin Tryd.prog .neq 54 (.agg (cI x)) (.agg (cI y)) = some (.bool (!decide (x = y))) := by
  rw [aggNe, T54lf]
  have := eqLeafs_ints x y (by omega)
  rw [hx] at this
  show (eqLeafs (List.replicate 5 .int) (cI x) (cI y)).map (fun z => AV.bool (!z)) = _
  rw [this]
  rfl
/-- A row of a machine: five numbers. -/
def row5 (N : List Int) (i : Nat) : List Int := (N.drop (i * 5)).take 5
theorem row5_len {N : List Int} {n i : Nat} (hN : N.length = 5 * n) (hi : i < n) : (row5 N i).length = 5 := by
  rw [row5, List.length_take, List.length_drop]; omega
theorem row5_cells {N : List Int} {n i : Nat} (hN : N.length = 5 * n) (hi : i < n) : ((cI N).drop (i * 5)).take 5 = cI (row5 N i) ∧ 5 ≤ ((cI N).drop (i * 5)).length := by
  refine ⟨by rw [cI_drop, cI_take]; rfl, ?_⟩
  rw [List.length_drop, cI_length]; omega
theorem rows_eq : ∀ {n : Nat} {N M : List Int}, N.length = 5 * n → M.length = 5 * n → (∀ i, i < n → row5 N i = row5 M i) → N = M
  | 0, N, M, h, h', _ => by
    rw [List.length_eq_zero_iff.1 (show N.length = 0 by omega), List.length_eq_zero_iff.1 (show M.length = 0 by omega)]
  | n + 1, N, M, h, h', hr => by
    have h0 := hr 0 (by omega)
    rw [row5, row5, Nat.zero_mul, List.drop_zero, List.drop_zero] at h0
    have ih := rows_eq (n := n) (N := N.drop 5) (M := M.drop 5) (by rw [List.length_drop]; omega) (by rw [List.length_drop]; omega) (fun i hi => by
      have := hr (i + 1) (by omega)
      rw [row5, row5, show (i + 1) * 5 = 5 + i * 5 by omega, ← List.drop_drop, ← List.drop_drop] at this
      exact this)
    rw [← List.take_append_drop 5 N, ← List.take_append_drop 5 M, h0, ih]
theorem lookEq (X) : lookedAt (EX md0 X) (fun _ => none) 2 Tryd.f51 = true := by kernel_rfl
theorem eqb_ok (x y : List Bool) (hx : x.length ≤ 100000) : Ok Tryd.prog 51 [slB x, slB y] (.bool (decide (x = y))) := by
  refine ok_of_WP (E := EX md0 (fun _ _ => none)) (cr := noR) (tab_nil _) (noR_ok _) mixed (k := x.length + 1) Tryd.func51 (lookEq _) rfl ?_
  simp only [Tryd.f51, Option.getD_some]
  by_cases hl' : (x.length : Int) = y.length
  · have hl := hl'
    simp (disch := omega) only [go_sem, ↓IntWalk.iteOmega, IntWalk.toNatUp, Nat.reduceEqDiff, Nat.reduceAdd, Nat.reduceMul, Nat.reduceSub, Nat.reduceLT, Nat.reduceLeDiff, Int.reduceToNat, Int.reduceLT, Int.reduceLE, Int.reduceEq, Int.reduceAdd, Int.reduceSub, Int.reduceMul, Int.toNat_natCast, reduceCtorEq, decide_true, decide_false, IntWalk.i64_in, IntWalk.u64_in, IntWalk.u8_in, hl]
    refine WP_loop (fun m a o nx => ∃ i, i ≤ x.length ∧ m = x.length - i ∧ x.take i = y.take i ∧ a 0 = slB x ∧ a 1 = slB y ∧ a 12 = .int .i64 x.length ∧ a 13 = .int .i64 i) x.length (by omega) ⟨0, by omega, by omega, rfl, by simp (disch := omega) only [go_sem, ↓IntWalk.iteOmega, IntWalk.toNatUp, Nat.reduceEqDiff, Nat.reduceAdd, Nat.reduceMul, Nat.reduceSub, Nat.reduceLT, Nat.reduceLeDiff, Int.reduceToNat, Int.reduceLT, Int.reduceLE, Int.reduceEq, Int.reduceAdd, Int.reduceSub, Int.reduceMul, Int.toNat_natCast, reduceCtorEq, decide_true, decide_false, IntWalk.i64_in, IntWalk.u64_in, IntWalk.u8_in], by simp (disch := omega) only [go_sem, ↓IntWalk.iteOmega, IntWalk.toNatUp, Nat.reduceEqDiff, Nat.reduceAdd, Nat.reduceMul, Nat.reduceSub, Nat.reduceLT, Nat.reduceLeDiff, Int.reduceToNat, Int.reduceLT, Int.reduceLE, Int.reduceEq, Int.reduceAdd, Int.reduceSub, Int.reduceMul, Int.toNat_natCast, reduceCtorEq, decide_true, decide_false, IntWalk.i64_in, IntWalk.u64_in, IntWalk.u8_in], by simp (disch := omega) only [go_sem, ↓IntWalk.iteOmega, IntWalk.toNatUp, Nat.reduceEqDiff, Nat.reduceAdd, Nat.reduceMul, Nat.reduceSub, Nat.reduceLT, Nat.reduceLeDiff, Int.reduceToNat, Int.reduceLT, Int.reduceLE, Int.reduceEq, Int.reduceAdd, Int.reduceSub, Int.reduceMul, Int.toNat_natCast, reduceCtorEq, decide_true, decide_false, IntWalk.i64_in, IntWalk.u64_in, IntWalk.u8_in, hl], by simp (disch := omega) only [go_sem, ↓IntWalk.iteOmega, IntWalk.toNatUp, Nat.reduceEqDiff, Nat.reduceAdd, Nat.reduceMul, Nat.reduceSub, Nat.reduceLT, Nat.reduceLeDiff, Int.reduceToNat, Int.reduceLT, Int.reduceLE, Int.reduceEq, Int.reduceAdd, Int.reduceSub, Int.reduceMul, Int.toNat_natCast, reduceCtorEq, decide_true, decide_false, IntWalk.i64_in, IntWalk.u64_in, IntWalk.u8_in]⟩ ?_
    rintro m a o nx ⟨i, hi, rfl, htk, h0, h1, h12, h13⟩
    by_cases hlt : i < x.length
    · have hat := cB_get (s := 1) hlt
      have hat2 := cB_get (l := y) (i := i) (s := 1) (by omega)
      have hs1 := take_succ_getD hlt false
      have hs2 := take_succ_getD (l := y) (i := i) (by omega) false
      generalize hp : x.getD i false = p at hat hs1
      generalize hq : y.getD i false = q at hat2 hs2
      by_cases hpq : p = q
      · have hbe : (p == q) = true := by rw [hpq]; exact beq_self_eq_true _
        simp (disch := omega) only [go_sem, ↓IntWalk.iteOmega, IntWalk.toNatUp, Nat.reduceEqDiff, Nat.reduceAdd, Nat.reduceMul, Nat.reduceSub, Nat.reduceLT, Nat.reduceLeDiff, Int.reduceToNat, Int.reduceLT, Int.reduceLE, Int.reduceEq, Int.reduceAdd, Int.reduceSub, Int.reduceMul, Int.toNat_natCast, reduceCtorEq, decide_true, decide_false, IntWalk.i64_in, IntWalk.u64_in, IntWalk.u8_in, h0, h1, h12, h13, hat, hat2, hbe]
        exact ⟨_, by omega, i + 1, by omega, rfl, by rw [hs1, hs2, htk, hpq], rfl⟩
      · have hbe : (p == q) = false := beq_false_of_ne hpq
        rw [decide_eq_false (fun e => hpq (by rw [← hp, ← hq, e]))]
        simp (disch := omega) only [go_sem, ↓IntWalk.iteOmega, IntWalk.toNatUp, Nat.reduceEqDiff, Nat.reduceAdd, Nat.reduceMul, Nat.reduceSub, Nat.reduceLT, Nat.reduceLeDiff, Int.reduceToNat, Int.reduceLT, Int.reduceLE, Int.reduceEq, Int.reduceAdd, Int.reduceSub, Int.reduceMul, Int.toNat_natCast, reduceCtorEq, decide_true, decide_false, IntWalk.i64_in, IntWalk.u64_in, IntWalk.u8_in, h0, h1, h12, h13, hat, hat2, hbe]
    · rw [decide_eq_true (by rw [← List.take_of_length_le (l := x) (i := i) (by omega), htk, List.take_of_length_le (by omega)])]
      simp (disch := omega) only [go_sem, ↓IntWalk.iteOmega, IntWalk.toNatUp, Nat.reduceEqDiff, Nat.reduceAdd, Nat.reduceMul, Nat.reduceSub, Nat.reduceLT, Nat.reduceLeDiff, Int.reduceToNat, Int.reduceLT, Int.reduceLE, Int.reduceEq, Int.reduceAdd, Int.reduceSub, Int.reduceMul, Int.toNat_natCast, reduceCtorEq, decide_true, decide_false, IntWalk.i64_in, IntWalk.u64_in, IntWalk.u8_in, h0, h1, h12, h13]
  · have hl : ¬ (x.length : Int) = y.length := hl'
    rw [decide_eq_false (fun e => hl (by rw [e]))]
    simp (disch := omega) only [go_sem, ↓IntWalk.iteOmega, IntWalk.toNatUp, Nat.reduceEqDiff, Nat.reduceAdd, Nat.reduceMul, Nat.reduceSub, Nat.reduceLT, Nat.reduceLeDiff, Int.reduceToNat, Int.reduceLT, Int.reduceLE, Int.reduceEq, Int.reduceAdd, Int.reduceSub, Int.reduceMul, Int.toNat_natCast, reduceCtorEq, decide_true, decide_false, IntWalk.i64_in, IntWalk.u64_in, IntWalk.u8_in, hl]
theorem lookS1 (X) : lookedAt (EX md0 X) (fun _ => none) 2 Tryd.f53 = true := by kernel_rfl
theorem same1_ok {x y : List Int} (hx : x.length = 5) (hy : y.length = 5) : Ok Tryd.prog 53 [.agg (cI x), .agg (cI y)] (.bool (decide (x = y))) := by
  refine ok_of_WP (E := EX md0 (fun _ _ => none)) (cr := noR) (tab_nil _) (noR_ok _) mixed (k := 0) Tryd.func53 (lookS1 _) rfl ?_
  have he := five_eql hx hy
  have h1 : (cI x).length = 5 := by rw [cI_length, hx]
  have h2 : (cI y).length = 5 := by rw [cI_length, hy]
  have h3 : (cI x).take 5 = cI x := take_len h1
  have h4 : (cI y).take 5 = cI y := take_len h2
  have h5 := cI_ok x
  have h6 := cI_ok y
  simp only [Tryd.f53, Option.getD_some]
  simp (disch := omega) only [go_sem, ↓IntWalk.iteOmega, IntWalk.toNatUp, Nat.reduceEqDiff, Nat.reduceAdd, Nat.reduceMul, Nat.reduceSub, Nat.reduceLT, Nat.reduceLeDiff, Int.reduceToNat, Int.reduceLT, Int.reduceLE, Int.reduceEq, Int.reduceAdd, Int.reduceSub, Int.reduceMul, Int.toNat_natCast, reduceCtorEq, decide_true, decide_false, IntWalk.i64_in, IntWalk.u64_in, IntWalk.u8_in, he, h1, h2, h3, h4, h5, h6]
def RS1 (args : List AV) (r : AV) : Prop := ∃ x y : List Int, x.length = 5 ∧ y.length = 5 ∧ args = [.agg (cI x), .agg (cI y)] ∧ r = .bool (decide (x = y))
theorem RS1_fn : Fun1 RS1 := by
  rintro args r r' ⟨x, y, _, _, rfl, rfl⟩ ⟨x', y', _, _, h, rfl⟩
  simp only [List.cons.injEq, AV.agg.injEq, and_true] at h
  rw [cI_inj h.1, cI_inj h.2]
theorem RS1_ok (args r) (h : RS1 args r) : Ok Tryd.prog 53 args r := by obtain ⟨x, y, h1, h2, rfl, rfl⟩ := h; exact same1_ok h1 h2
noncomputable def XS1 : FuncId → List AV → Option AV := tabLook [(53, tRel RS1)]
theorem XS1_ok : CPSound Tryd.prog XS1 := tab_cons (tab_nil _) (tRel_ok RS1_ok)
theorem XS1_eq {x y : List Int} (hx : x.length = 5) (hy : y.length = 5) : XS1 53 [.agg (cI x), .agg (cI y)] = some (.bool (decide (x = y))) := tRel_eq (R := RS1) RS1_fn ⟨_, _, hx, hy, rfl, rfl⟩
theorem lookEF : lookedAt (EX md0 XS1) (fun _ => none) 3 Tryd.f52 = true := by kernel_rfl
theorem eqf_ok {n k : Nat} {N M : List Int} (hN : N.length = 5 * n) (hM : M.length = 5 * k) (hn : n ≤ 100000) : Ok Tryd.prog 52 [.sl n (cI N), .sl k (cI M), .fn (.func 53) [] []] (.bool (decide (N = M))) := by
  refine ok_of_WP (E := EX md0 XS1) (cr := noR) XS1_ok (noR_ok _) mixed (k := n + 1) Tryd.func52 lookEF rfl ?_
  simp only [Tryd.f52, Option.getD_some]
  by_cases hnk : n = k
  · subst hnk
    simp (disch := omega) only [go_sem, ↓IntWalk.iteOmega, IntWalk.toNatUp, Nat.reduceEqDiff, Nat.reduceAdd, Nat.reduceMul, Nat.reduceSub, Nat.reduceLT, Nat.reduceLeDiff, Int.reduceToNat, Int.reduceLT, Int.reduceLE, Int.reduceEq, Int.reduceAdd, Int.reduceSub, Int.reduceMul, Int.toNat_natCast, reduceCtorEq, decide_true, decide_false, IntWalk.i64_in, IntWalk.u64_in, IntWalk.u8_in]
    refine WP_loop (fun m a o nx => ∃ i : Nat, i ≤ n ∧ m = n - i ∧ (∀ q, q < i → row5 N q = row5 M q) ∧ a 1 = .sl n (cI M) ∧ a 2 = .fn (.func 53) [] [] ∧ a 15 = .sl n (cI N) ∧ a 16 = .int .i64 n ∧ a 17 = .int .i64 i) n (by omega) ⟨0, by omega, by omega, fun q hq => by omega, by simp (disch := omega) only [go_sem, ↓IntWalk.iteOmega, IntWalk.toNatUp, Nat.reduceEqDiff, Nat.reduceAdd, Nat.reduceMul, Nat.reduceSub, Nat.reduceLT, Nat.reduceLeDiff, Int.reduceToNat, Int.reduceLT, Int.reduceLE, Int.reduceEq, Int.reduceAdd, Int.reduceSub, Int.reduceMul, Int.toNat_natCast, reduceCtorEq, decide_true, decide_false, IntWalk.i64_in, IntWalk.u64_in, IntWalk.u8_in], by simp (disch := omega) only [go_sem, ↓IntWalk.iteOmega, IntWalk.toNatUp, Nat.reduceEqDiff, Nat.reduceAdd, Nat.reduceMul, Nat.reduceSub, Nat.reduceLT, Nat.reduceLeDiff, Int.reduceToNat, Int.reduceLT, Int.reduceLE, Int.reduceEq, Int.reduceAdd, Int.reduceSub, Int.reduceMul, Int.toNat_natCast, reduceCtorEq, decide_true, decide_false, IntWalk.i64_in, IntWalk.u64_in, IntWalk.u8_in], by simp (disch := omega) only [go_sem, ↓IntWalk.iteOmega, IntWalk.toNatUp, Nat.reduceEqDiff, Nat.reduceAdd, Nat.reduceMul, Nat.reduceSub, Nat.reduceLT, Nat.reduceLeDiff, Int.reduceToNat, Int.reduceLT, Int.reduceLE, Int.reduceEq, Int.reduceAdd, Int.reduceSub, Int.reduceMul, Int.toNat_natCast, reduceCtorEq, decide_true, decide_false, IntWalk.i64_in, IntWalk.u64_in, IntWalk.u8_in], by simp (disch := omega) only [go_sem, ↓IntWalk.iteOmega, IntWalk.toNatUp, Nat.reduceEqDiff, Nat.reduceAdd, Nat.reduceMul, Nat.reduceSub, Nat.reduceLT, Nat.reduceLeDiff, Int.reduceToNat, Int.reduceLT, Int.reduceLE, Int.reduceEq, Int.reduceAdd, Int.reduceSub, Int.reduceMul, Int.toNat_natCast, reduceCtorEq, decide_true, decide_false, IntWalk.i64_in, IntWalk.u64_in, IntWalk.u8_in], by simp (disch := omega) only [go_sem, ↓IntWalk.iteOmega, IntWalk.toNatUp, Nat.reduceEqDiff, Nat.reduceAdd, Nat.reduceMul, Nat.reduceSub, Nat.reduceLT, Nat.reduceLeDiff, Int.reduceToNat, Int.reduceLT, Int.reduceLE, Int.reduceEq, Int.reduceAdd, Int.reduceSub, Int.reduceMul, Int.toNat_natCast, reduceCtorEq, decide_true, decide_false, IntWalk.i64_in, IntWalk.u64_in, IntWalk.u8_in]⟩ ?_
    rintro m a o nx ⟨i, hi, rfl, hall, h1, h2, h15, h16, h17⟩
    by_cases hlt : i < n
    · obtain ⟨c1, c2⟩ := row5_cells hN hlt
      obtain ⟨c3, c4⟩ := row5_cells hM hlt
      have l1 := row5_len hN hlt
      have l2 := row5_len hM hlt
      have hs := XS1_eq l1 l2
      have k1 : (cI (row5 N i)).length = 5 := by rw [cI_length, l1]
      have k2 : (cI (row5 M i)).length = 5 := by rw [cI_length, l2]
      have k3 : (cI (row5 N i)).take 5 = cI (row5 N i) := take_len k1
      have k4 : (cI (row5 M i)).take 5 = cI (row5 M i) := take_len k2
      have k5 := cI_ok (row5 N i)
      have k6 := cI_ok (row5 M i)
      obtain ⟨x, hx⟩ : ∃ x, x = row5 N i := ⟨_, rfl⟩
      obtain ⟨y, hy⟩ : ∃ y, y = row5 M i := ⟨_, rfl⟩
      rw [← hx] at c1 hs k1 k3 k5
      rw [← hy] at c3 hs k2 k4 k6
      have hdz : List.drop 5 [AV.int .i64 0, .int .i64 0, .int .i64 0, .int .i64 0, .int .i64 0] = [] := rfl
      have hv := fun o d => view_cI o d x
      have hv' := fun o d => view_cI o d y
      by_cases he : x = y
      · rw [decide_eq_true he] at hs
        simp (disch := omega) only [go_sem, ↓IntWalk.iteOmega, IntWalk.toNatUp, Nat.reduceEqDiff, Nat.reduceAdd, Nat.reduceMul, Nat.reduceSub, Nat.reduceLT, Nat.reduceLeDiff, Int.reduceToNat, Int.reduceLT, Int.reduceLE, Int.reduceEq, Int.reduceAdd, Int.reduceSub, Int.reduceMul, Int.toNat_natCast, reduceCtorEq, decide_true, decide_false, IntWalk.i64_in, IntWalk.u64_in, IntWalk.u8_in, h1, h2, h15, h16, h17, c1, c2, c3, c4, hs, k1, k2, k3, k4, k5, k6, hdz, List.append_nil, hv, hv']
        refine ⟨_, by omega, i + 1, by omega, rfl, fun q hq => ?_, rfl⟩
        by_cases hqi : q = i
        · rw [hqi, ← hx, ← hy, he]
        · exact hall q (by omega)
      · rw [decide_eq_false he] at hs
        rw [decide_eq_false (fun e => he (by rw [hx, hy, e]))]
        simp (disch := omega) only [go_sem, ↓IntWalk.iteOmega, IntWalk.toNatUp, Nat.reduceEqDiff, Nat.reduceAdd, Nat.reduceMul, Nat.reduceSub, Nat.reduceLT, Nat.reduceLeDiff, Int.reduceToNat, Int.reduceLT, Int.reduceLE, Int.reduceEq, Int.reduceAdd, Int.reduceSub, Int.reduceMul, Int.toNat_natCast, reduceCtorEq, decide_true, decide_false, IntWalk.i64_in, IntWalk.u64_in, IntWalk.u8_in, h1, h2, h15, h16, h17, c1, c2, c3, c4, hs, k1, k2, k3, k4, k5, k6, hdz, List.append_nil, hv, hv']
    · rw [decide_eq_true (rows_eq hN hM (fun q hq => hall q (by omega)))]
      simp (disch := omega) only [go_sem, ↓IntWalk.iteOmega, IntWalk.toNatUp, Nat.reduceEqDiff, Nat.reduceAdd, Nat.reduceMul, Nat.reduceSub, Nat.reduceLT, Nat.reduceLeDiff, Int.reduceToNat, Int.reduceLT, Int.reduceLE, Int.reduceEq, Int.reduceAdd, Int.reduceSub, Int.reduceMul, Int.toNat_natCast, reduceCtorEq, decide_true, decide_false, IntWalk.i64_in, IntWalk.u64_in, IntWalk.u8_in, h1, h2, h15, h16, h17]
  · rw [decide_eq_false (fun e => hnk (by rw [e] at hN; omega))]
    have hnk' : ¬ (n : Int) = k := by omega
    simp (disch := omega) only [go_sem, ↓IntWalk.iteOmega, IntWalk.toNatUp, Nat.reduceEqDiff, Nat.reduceAdd, Nat.reduceMul, Nat.reduceSub, Nat.reduceLT, Nat.reduceLeDiff, Int.reduceToNat, Int.reduceLT, Int.reduceLE, Int.reduceEq, Int.reduceAdd, Int.reduceSub, Int.reduceMul, Int.toNat_natCast, reduceCtorEq, decide_true, decide_false, IntWalk.i64_in, IntWalk.u64_in, IntWalk.u8_in, hnk']
def REq (args : List AV) (r : AV) : Prop := ∃ x y : List Bool, x.length ≤ 100000 ∧ args = [slB x, slB y] ∧ r = .bool (decide (x = y))
theorem REq_fn : Fun1 REq := by
  rintro args r r' ⟨x, y, _, rfl, rfl⟩ ⟨x', y', _, h, rfl⟩
  simp only [List.cons.injEq, AV.sl.injEq, and_true] at h
  rw [cB_inj h.1.2, cB_inj h.2.2]
theorem REq_ok (args r) (h : REq args r) : Ok Tryd.prog 51 args r := by obtain ⟨x, y, h1, rfl, rfl⟩ := h; exact eqb_ok x y h1
def REf (args : List AV) (r : AV) : Prop := ∃ (n k : Nat) (N M : List Int), N.length = 5 * n ∧ M.length = 5 * k ∧ n ≤ 100000 ∧ args = [.sl n (cI N), .sl k (cI M), .fn (.func 53) [] []] ∧ r = .bool (decide (N = M))
theorem REf_fn : Fun1 REf := by
  rintro args r r' ⟨n, k, N, M, _, _, _, rfl, rfl⟩ ⟨n', k', N', M', _, _, _, h, rfl⟩
  simp only [List.cons.injEq, AV.sl.injEq, and_true] at h
  rw [cI_inj h.1.2, cI_inj h.2.2]
theorem REf_ok (args r) (h : REf args r) : Ok Tryd.prog 52 args r := by obtain ⟨n, k, N, M, h1, h2, h3, rfl, rfl⟩ := h; exact eqf_ok h1 h2 h3
noncomputable def XSe : FuncId → List AV → Option AV := tabLook [(51, tRel REq), (52, tRel REf)]
theorem XSe_ok : CPSound Tryd.prog XSe := tab_cons (tab_cons (tab_nil _) (tRel_ok REf_ok)) (tRel_ok REq_ok)
theorem XSe_b {x y : List Bool} (h : x.length ≤ 100000) : XSe 51 [slB x, slB y] = some (.bool (decide (x = y))) := tRel_eq (R := REq) REq_fn ⟨_, _, h, rfl, rfl⟩
theorem XSe_f {n k : Nat} {N M : List Int} (hN : N.length = 5 * n) (hM : M.length = 5 * k) (hn : n ≤ 100000) : XSe 52 [.sl n (cI N), .sl k (cI M), .fn (.func 53) [] []] = some (.bool (decide (N = M))) := tRel_eq (R := REf) REf_fn ⟨_, _, _, _, hN, hM, hn, rfl, rfl⟩
theorem lookMS : lookedAt (EX md0 XSe) (fun _ => none) 2 Tryd.f27 = true := by kernel_rfl
theorem msame_ok {n k : Nat} {N M : List Int} {A B : List Bool} (hN : N.length = 5 * n) (hM : M.length = 5 * k) (hn : n ≤ 100000) (hA : A.length ≤ 100000) : Ok Tryd.prog 27 [dfaV n N A, dfaV k M B] (.bool (decide (A = B ∧ N = M))) := by
  refine ok_of_WP (E := EX md0 XSe) (cr := noR) XSe_ok (noR_ok _) mixed (k := 0) Tryd.func27 lookMS rfl ?_
  have h1 := XSe_b (x := A) (y := B) hA
  have h2 := XSe_f hN hM hn
  simp only [Tryd.f27, Option.getD_some]
  by_cases hab : A = B
  · rw [decide_eq_true hab] at h1
    have e : (decide (A = B ∧ N = M)) = decide (N = M) := by simp [hab]
    rw [e]
    generalize decide (N = M) = z at *
    simp (disch := omega) only [go_sem, ↓IntWalk.iteOmega, IntWalk.toNatUp, Nat.reduceEqDiff, Nat.reduceAdd, Nat.reduceMul, Nat.reduceSub, Nat.reduceLT, Nat.reduceLeDiff, Int.reduceToNat, Int.reduceLT, Int.reduceLE, Int.reduceEq, Int.reduceAdd, Int.reduceSub, Int.reduceMul, Int.toNat_natCast, reduceCtorEq, decide_true, decide_false, IntWalk.i64_in, IntWalk.u64_in, IntWalk.u8_in, h1, h2]
  · rw [decide_eq_false hab] at h1
    rw [decide_eq_false (fun e => hab e.1)]
    simp (disch := omega) only [go_sem, ↓IntWalk.iteOmega, IntWalk.toNatUp, Nat.reduceEqDiff, Nat.reduceAdd, Nat.reduceMul, Nat.reduceSub, Nat.reduceLT, Nat.reduceLeDiff, Int.reduceToNat, Int.reduceLT, Int.reduceLE, Int.reduceEq, Int.reduceAdd, Int.reduceSub, Int.reduceMul, Int.toNat_natCast, reduceCtorEq, decide_true, decide_false, IntWalk.i64_in, IntWalk.u64_in, IntWalk.u8_in, h1]
theorem lookRS7 (X) : lookedAt (EX md0 X) (fun _ => none) 2 Tryd.f17 = true := by kernel_rfl
theorem rsame_ok {n k : Nat} {N M : List Int} {A B : List Bool} (hN : N.length = 5 * n) (hM : M.length = 5 * k) (hn : n ≤ 100000) (hA : A.length = n) (hB : B.length = k) : Ok Tryd.prog 17 [dfaV n N A, dfaV k M B] (.bool (decide (A = B ∧ N = M))) := by
  refine ok_of_WP (E := EX md0 (fun _ _ => none)) (cr := noR) (tab_nil _) (noR_ok _) mixed (k := n + 1) Tryd.func17 (lookRS7 _) rfl ?_
  simp only [Tryd.f17, Option.getD_some]
  by_cases hnk : n = k
  · subst hnk
    rw [dfaV, slB, dfaV, slB, hA, hB]
    simp (disch := omega) only [go_sem, ↓IntWalk.iteOmega, IntWalk.toNatUp, Nat.reduceEqDiff, Nat.reduceAdd, Nat.reduceMul, Nat.reduceSub, Nat.reduceLT, Nat.reduceLeDiff, Int.reduceToNat, Int.reduceLT, Int.reduceLE, Int.reduceEq, Int.reduceAdd, Int.reduceSub, Int.reduceMul, Int.toNat_natCast, reduceCtorEq, decide_true, decide_false, IntWalk.i64_in, IntWalk.u64_in, IntWalk.u8_in]
    refine WP_loop (fun m a o nx => ∃ i, i ≤ n ∧ m = n - i ∧ (∀ q, q < i → row5 N q = row5 M q) ∧ A.take i = B.take i ∧ a 2 = .ptr (0, 2) (0, 2) 0 ∧ a 3 = .ptr (0, 3) (0, 3) 0 ∧ a 5 = .int .i64 i ∧ o (0, 2) = some (.row ⟨27, 1, (0, 2), false, true, [.sl n (cI N), .sl n (cB A)]⟩) ∧ o (0, 3) = some (.row ⟨27, 1, (0, 3), false, true, [.sl n (cI M), .sl n (cB B)]⟩)) n (by omega) ⟨0, by omega, by omega, fun q hq => by omega, rfl, by simp (disch := omega) only [go_sem, ↓IntWalk.iteOmega, IntWalk.toNatUp, Nat.reduceEqDiff, Nat.reduceAdd, Nat.reduceMul, Nat.reduceSub, Nat.reduceLT, Nat.reduceLeDiff, Int.reduceToNat, Int.reduceLT, Int.reduceLE, Int.reduceEq, Int.reduceAdd, Int.reduceSub, Int.reduceMul, Int.toNat_natCast, reduceCtorEq, decide_true, decide_false, IntWalk.i64_in, IntWalk.u64_in, IntWalk.u8_in], by simp (disch := omega) only [go_sem, ↓IntWalk.iteOmega, IntWalk.toNatUp, Nat.reduceEqDiff, Nat.reduceAdd, Nat.reduceMul, Nat.reduceSub, Nat.reduceLT, Nat.reduceLeDiff, Int.reduceToNat, Int.reduceLT, Int.reduceLE, Int.reduceEq, Int.reduceAdd, Int.reduceSub, Int.reduceMul, Int.toNat_natCast, reduceCtorEq, decide_true, decide_false, IntWalk.i64_in, IntWalk.u64_in, IntWalk.u8_in], by simp (disch := omega) only [go_sem, ↓IntWalk.iteOmega, IntWalk.toNatUp, Nat.reduceEqDiff, Nat.reduceAdd, Nat.reduceMul, Nat.reduceSub, Nat.reduceLT, Nat.reduceLeDiff, Int.reduceToNat, Int.reduceLT, Int.reduceLE, Int.reduceEq, Int.reduceAdd, Int.reduceSub, Int.reduceMul, Int.toNat_natCast, reduceCtorEq, decide_true, decide_false, IntWalk.i64_in, IntWalk.u64_in, IntWalk.u8_in], by simp (disch := omega) only [go_sem, ↓IntWalk.iteOmega, IntWalk.toNatUp, Nat.reduceEqDiff, Nat.reduceAdd, Nat.reduceMul, Nat.reduceSub, Nat.reduceLT, Nat.reduceLeDiff, Int.reduceToNat, Int.reduceLT, Int.reduceLE, Int.reduceEq, Int.reduceAdd, Int.reduceSub, Int.reduceMul, Int.toNat_natCast, reduceCtorEq, decide_true, decide_false, IntWalk.i64_in, IntWalk.u64_in, IntWalk.u8_in], by simp (disch := omega) only [go_sem, ↓IntWalk.iteOmega, IntWalk.toNatUp, Nat.reduceEqDiff, Nat.reduceAdd, Nat.reduceMul, Nat.reduceSub, Nat.reduceLT, Nat.reduceLeDiff, Int.reduceToNat, Int.reduceLT, Int.reduceLE, Int.reduceEq, Int.reduceAdd, Int.reduceSub, Int.reduceMul, Int.toNat_natCast, reduceCtorEq, decide_true, decide_false, IntWalk.i64_in, IntWalk.u64_in, IntWalk.u8_in]⟩ ?_
    rintro m a o nx ⟨i, hi, rfl, hall, htk, h2, h3, h5, ho2, ho3⟩
    by_cases hlt : i < n
    · obtain ⟨c1, c2⟩ := row5_cells hN hlt
      obtain ⟨c3, c4⟩ := row5_cells hM hlt
      have l1 := row5_len hN hlt
      have l2 := row5_len hM hlt
      have hs := five_neq l1 l2
      obtain ⟨x, hx⟩ : ∃ x, x = row5 N i := ⟨_, rfl⟩
      obtain ⟨y, hy⟩ : ∃ y, y = row5 M i := ⟨_, rfl⟩
      rw [← hx] at c1 hs
      rw [← hy] at c3 hs
      have g1 := cB_get (l := A) (i := i) (s := 1) (by omega)
      have g2 := cB_get (l := B) (i := i) (s := 1) (by omega)
      have hs1 := take_succ_getD (l := A) (i := i) (by omega) false
      have hs2 := take_succ_getD (l := B) (i := i) (by omega) false
      generalize hp : A.getD i false = p at g1 hs1
      generalize hq : B.getD i false = q at g2 hs2
      by_cases he : x = y
      · rw [decide_eq_true he] at hs
        by_cases hpq : p = q
        · have hbe : (p == q) = true := by rw [hpq]; exact beq_self_eq_true _
          simp (disch := omega) only [go_sem, ↓IntWalk.iteOmega, IntWalk.toNatUp, Nat.reduceEqDiff, Nat.reduceAdd, Nat.reduceMul, Nat.reduceSub, Nat.reduceLT, Nat.reduceLeDiff, Int.reduceToNat, Int.reduceLT, Int.reduceLE, Int.reduceEq, Int.reduceAdd, Int.reduceSub, Int.reduceMul, Int.toNat_natCast, reduceCtorEq, decide_true, decide_false, IntWalk.i64_in, IntWalk.u64_in, IntWalk.u8_in, h2, h3, h5, ho2, ho3, c1, c2, c3, c4, hs, g1, g2, hbe, Bool.not_true, Bool.not_false]
          refine ⟨_, by omega, i + 1, by omega, rfl, fun q' hq' => ?_, by rw [hs1, hs2, htk, hpq], rfl⟩
          by_cases hqi : q' = i
          · rw [hqi, ← hx, ← hy, he]
          · exact hall q' (by omega)
        · have hbe : (p == q) = false := beq_false_of_ne hpq
          rw [decide_eq_false (fun e => hpq (by rw [← hp, ← hq, e.1]))]
          simp (disch := omega) only [go_sem, ↓IntWalk.iteOmega, IntWalk.toNatUp, Nat.reduceEqDiff, Nat.reduceAdd, Nat.reduceMul, Nat.reduceSub, Nat.reduceLT, Nat.reduceLeDiff, Int.reduceToNat, Int.reduceLT, Int.reduceLE, Int.reduceEq, Int.reduceAdd, Int.reduceSub, Int.reduceMul, Int.toNat_natCast, reduceCtorEq, decide_true, decide_false, IntWalk.i64_in, IntWalk.u64_in, IntWalk.u8_in, h2, h3, h5, ho2, ho3, c1, c2, c3, c4, hs, g1, g2, hbe, Bool.not_true, Bool.not_false]
      · rw [decide_eq_false he] at hs
        rw [decide_eq_false (fun e => he (by rw [hx, hy, e.2]))]
        simp (disch := omega) only [go_sem, ↓IntWalk.iteOmega, IntWalk.toNatUp, Nat.reduceEqDiff, Nat.reduceAdd, Nat.reduceMul, Nat.reduceSub, Nat.reduceLT, Nat.reduceLeDiff, Int.reduceToNat, Int.reduceLT, Int.reduceLE, Int.reduceEq, Int.reduceAdd, Int.reduceSub, Int.reduceMul, Int.toNat_natCast, reduceCtorEq, decide_true, decide_false, IntWalk.i64_in, IntWalk.u64_in, IntWalk.u8_in, h2, h3, h5, ho2, ho3, c1, c2, c3, c4, hs, g1, g2, Bool.not_true, Bool.not_false]
    · rw [decide_eq_true ⟨by rw [← List.take_of_length_le (l := A) (i := i) (by omega), htk, List.take_of_length_le (by omega)], rows_eq hN hM (fun q hq => hall q (by omega))⟩]
      simp (disch := omega) only [go_sem, ↓IntWalk.iteOmega, IntWalk.toNatUp, Nat.reduceEqDiff, Nat.reduceAdd, Nat.reduceMul, Nat.reduceSub, Nat.reduceLT, Nat.reduceLeDiff, Int.reduceToNat, Int.reduceLT, Int.reduceLE, Int.reduceEq, Int.reduceAdd, Int.reduceSub, Int.reduceMul, Int.toNat_natCast, reduceCtorEq, decide_true, decide_false, IntWalk.i64_in, IntWalk.u64_in, IntWalk.u8_in, h2, h3, h5, ho2, ho3]
  · rw [decide_eq_false (fun e => hnk (by rw [e.2] at hN; omega))]
    have hnk' : ¬ (n : Int) = k := by omega
    simp (disch := omega) only [go_sem, ↓IntWalk.iteOmega, IntWalk.toNatUp, Nat.reduceEqDiff, Nat.reduceAdd, Nat.reduceMul, Nat.reduceSub, Nat.reduceLT, Nat.reduceLeDiff, Int.reduceToNat, Int.reduceLT, Int.reduceLE, Int.reduceEq, Int.reduceAdd, Int.reduceSub, Int.reduceMul, Int.toNat_natCast, reduceCtorEq, decide_true, decide_false, IntWalk.i64_in, IntWalk.u64_in, IntWalk.u8_in, hnk']
def RSa (args : List AV) (r : AV) : Prop := ∃ (n k : Nat) (N M : List Int) (A B : List Bool), N.length = 5 * n ∧ M.length = 5 * k ∧ n ≤ 100000 ∧ A.length = n ∧ B.length = k ∧ args = [dfaV n N A, dfaV k M B] ∧ r = .bool (decide (A = B ∧ N = M))
theorem RSa_fn : Fun1 RSa := by
  rintro args r r' ⟨n, k, N, M, A, B, _, _, _, _, _, rfl, rfl⟩ ⟨n', k', N', M', A', B', _, _, _, _, _, h, rfl⟩
  simp only [List.cons.injEq, and_true] at h
  obtain ⟨_, h1, h2⟩ := dfaV_inj h.1
  obtain ⟨_, h3, h4⟩ := dfaV_inj h.2
  rw [h1, h2, h3, h4]
theorem RSa_mini (args r) (h : RSa args r) : Ok Tryd.prog 27 args r := by obtain ⟨n, k, N, M, A, B, h1, h2, h3, h4, h5, rfl, rfl⟩ := h; exact msame_ok h1 h2 h3 (by omega)
theorem RSa_ref (args r) (h : RSa args r) : Ok Tryd.prog 17 args r := by obtain ⟨n, k, N, M, A, B, h1, h2, h3, h4, h5, rfl, rfl⟩ := h; exact rsame_ok h1 h2 h3 h4 h5
end Go.Proofs.YtpmjpogcaglphaaDoor.A
/- Machines over one another, plainly: numbered another way, beside a copy, begun elsewhere. -/
namespace Go.Proofs.YtpmjpogcaglphaaDoor.A
open Go
set_option maxRecDepth 20000
/-- A machine whose states stand for states of another one. -/
theorem hom_go {N M : List Int} {B : List Bool} {φ : Nat → Nat} (hM : OkD M B) (hn : ∀ y m, y < B.length → m < 5 → φ (M.getD (y * 5 + m) 0).toNat = (N.getD (φ y * 5 + m) 0).toNat) (w : List Nat) : ∀ y, (∀ m ∈ w, m < 5) → y < B.length → goS N (φ y) w = φ (goS M y w) := by
  induction w with
  | nil => exact fun y _ _ => rfl
  | cons m w ih =>
    intro y hw hy
    have hm := hw m (List.mem_cons_self ..)
    rw [goS, goS, ← hn y m hy hm]
    exact ih _ (fun z hz => hw z (List.mem_cons_of_mem _ hz)) (hM.next hy hm)
theorem hom_eqv {N : List Int} {A : List Bool} {M B} {φ : Nat → Nat} (hM : OkD M B) (ha : ∀ y, y < B.length → B.getD y false = A.getD (φ y) false) (hn : ∀ y m, y < B.length → m < 5 → φ (M.getD (y * 5 + m) 0).toNat = (N.getD (φ y * 5 + m) 0).toNat) {y : Nat} (hy : y < B.length) : Eqv N A M B (φ y) y := fun w hw => by
  rw [hom_go hM hn w y hw hy, ha _ (hM.go w y hw hy)]
structure PermL (k : Nat) (t : List Nat) : Prop where
  len : t.length = k
  lt : ∀ (i x : Nat), t[i]? = some x → x < k
  inj : ∀ (i j x : Nat), t[i]? = some x → t[j]? = some x → i = j
theorem PermL.range (k : Nat) : PermL k (List.range k) := by
  refine ⟨by simp, fun i x h => ?_, fun i j x h h' => ?_⟩
  · have h1 := (List.getElem?_eq_some_iff.1 h).1
    have h2 := (List.getElem?_eq_some_iff.1 h).2
    simp at h1 h2
    omega
  · have h2 := (List.getElem?_eq_some_iff.1 h).2
    have h3 := (List.getElem?_eq_some_iff.1 h').2
    simp at h2 h3
    omega
theorem PermL.nodup {k t} (h : PermL k t) : t.Nodup := by
  unfold List.Nodup
  rw [List.pairwise_iff_getElem]
  intro i j hi hj hij e
  have := h.inj i j t[i] (List.getElem?_eq_getElem hi) (by rw [e]; exact List.getElem?_eq_getElem hj)
  omega
theorem PermL.onto {k t} (h : PermL k t) {y : Nat} (hy : y < k) : ∃ i, i < k ∧ t[i]? = some y := by
  by_cases hm : y ∈ t
  · obtain ⟨i, hi, e⟩ := List.getElem_of_mem hm
    exact ⟨i, by rw [← h.len]; exact hi, by rw [List.getElem?_eq_getElem hi, e]⟩
  · have := List.Nodup.length_le_of_subset (l₁ := y :: t) (l₂ := List.range k) (List.nodup_cons.2 ⟨hm, h.nodup⟩) (fun z hz => by
      rcases List.mem_cons.1 hz with rfl | hz
      · exact List.mem_range.2 hy
      · obtain ⟨i, hi, e⟩ := List.getElem_of_mem hz
        exact List.mem_range.2 (h.lt i z (by rw [List.getElem?_eq_getElem hi, e])))
    rw [List.length_cons, List.length_range, h.len] at this
    omega
theorem PermL.get {k t} (h : PermL k t) {i : Nat} (hi : i < k) : t[i]? = some (t.getD i 0) := by
  have : i < t.length := by rw [h.len]; exact hi
  simp [List.getD, this]
def swapL (t : List Nat) (a b : Nat) : List Nat := (t.set a (t.getD b 0)).set b (t.getD a 0)
theorem swapL_get {t : List Nat} {a b : Nat} (ha : a < t.length) (hb : b < t.length) (i : Nat) : (swapL t a b)[i]? = if b = i then some (t.getD a 0) else if a = i then some (t.getD b 0) else t[i]? := by
  unfold swapL
  rw [List.getElem?_set, List.getElem?_set]
  simp only [List.length_set, hb, ha, if_true]
theorem PermL.swap {k t} (h : PermL k t) {a b : Nat} (ha : a < k) (hb : b < k) : PermL k (swapL t a b) := by
  have la : a < t.length := by rw [h.len]; exact ha
  have lb : b < t.length := by rw [h.len]; exact hb
  refine ⟨by simp [swapL, h.len], fun i x hx => ?_, fun i j x hx hy => ?_⟩
  · rw [swapL_get la lb] at hx
    split at hx
    · injection hx with hx; rw [← hx]; exact h.lt a _ (h.get ha)
    · split at hx
      · injection hx with hx; rw [← hx]; exact h.lt b _ (h.get hb)
      · exact h.lt i x hx
  · -- where a place's number stood before
    have key : ∀ i x, (swapL t a b)[i]? = some x → t[if b = i then a else if a = i then b else i]? = some x := fun i x hx => by
      rw [swapL_get la lb] at hx
      by_cases e : b = i
      · rw [if_pos e] at hx ⊢
        rw [← hx]; exact h.get ha
      · rw [if_neg e] at hx ⊢
        by_cases e2 : a = i
        · rw [if_pos e2] at hx ⊢
          rw [← hx]; exact h.get hb
        · rw [if_neg e2] at hx ⊢
          exact hx
    have := h.inj _ _ x (key i x hx) (key j x hy)
    split at this <;> split at this <;> (try split at this) <;> (try split at this) <;> omega
/-- States numbered another way. -/
theorem perm_okD {k : Nat} {t : List Nat} (h : PermL k t) {N A M} {B : List Bool} (hk : A.length = k) (hA : OkD N A) (hB : B.length = k) (hM : ∀ i j, i < k → j < 5 → M.getD (t.getD i 0 * 5 + j) 0 = (t.getD (N.getD (i * 5 + j) 0).toNat 0 : Int)) : OkD M B := by
  have hl := hA.l
  refine ⟨by omega, fun p hp => ?_⟩
  obtain ⟨i, hi, e⟩ := h.onto (y := p / 5) (by omega)
  have e2 : t.getD i 0 = p / 5 := getD_of e
  have := hM i (p % 5) hi (by omega)
  rw [e2, show p / 5 * 5 + p % 5 = p by omega] at this
  rw [this]
  have := h.lt _ _ (h.get (i := (N.getD (i * 5 + p % 5) 0).toNat) (by have := hA.next (s := i) (m := p % 5) (by omega) (by omega); omega))
  omega
theorem perm_eqv {k : Nat} {t : List Nat} (h : PermL k t) {N A M B} (hk : A.length = k) (hA : OkD N A) (hB : B.length = k) (hM : ∀ i j, i < k → j < 5 → M.getD (t.getD i 0 * 5 + j) 0 = (t.getD (N.getD (i * 5 + j) 0).toNat 0 : Int)) (hacc : ∀ i, i < k → B.getD (t.getD i 0) false = A.getD i false) {i : Nat} (hi : i < k) : Eqv N A M B i (t.getD i 0) := fun w hw => by
  have key : ∀ (w : List Nat) (i : Nat), (∀ m ∈ w, m < 5) → i < k → goS M (t.getD i 0) w = t.getD (goS N i w) 0 := by
    intro w
    induction w with
    | nil => exact fun i _ _ => rfl
    | cons m w ih =>
      intro i hw hi
      have hm := hw m (List.mem_cons_self ..)
      rw [goS, goS, hM i m hi hm, Int.toNat_natCast]
      exact ih _ (fun z hz => hw z (List.mem_cons_of_mem _ hz)) (by have := hA.next (s := i) (m := m) (by omega) hm; omega)
  rw [key w i hw hi, hacc _ (by have := hA.go w i hw (by omega); omega)]
theorem perm_steady {k : Nat} {t : List Nat} (h : PermL k t) {N A M} (hk : A.length = k) (hA : OkD N A) (hM : ∀ i j, i < k → j < 5 → M.getD (t.getD i 0 * 5 + j) 0 = (t.getD (N.getD (i * 5 + j) 0).toNat 0 : Int)) : steadyM k M = steadyM k N := by
  have step : ∀ i j, i < k → j < 5 → (M.getD ((M.getD (t.getD i 0 * 5 + j) 0).toNat * 5 + j) 0 = M.getD (t.getD i 0 * 5 + j) 0 ↔ N.getD ((N.getD (i * 5 + j) 0).toNat * 5 + j) 0 = N.getD (i * 5 + j) 0) := fun i j hi hj => by
    have h1 : (N.getD (i * 5 + j) 0).toNat < k := by have := hA.next (s := i) (m := j) (by omega) hj; omega
    have h2 : (N.getD ((N.getD (i * 5 + j) 0).toNat * 5 + j) 0).toNat < k := by have := hA.next (s := (N.getD (i * 5 + j) 0).toNat) (m := j) (by omega) hj; omega
    have p1 := hA.e (i * 5 + j) (by omega)
    have p2 := hA.e ((N.getD (i * 5 + j) 0).toNat * 5 + j) (by omega)
    rw [hM i j hi hj, Int.toNat_natCast, hM _ j h1 hj]
    constructor
    · intro e
      have e : t.getD (N.getD ((N.getD (i * 5 + j) 0).toNat * 5 + j) 0).toNat 0 = t.getD (N.getD (i * 5 + j) 0).toNat 0 := by omega
      have := h.inj _ _ _ (h.get h2) (by rw [e]; exact h.get h1)
      omega
    · intro e
      rw [e]
  rw [Bool.eq_iff_iff, steadyM, steadyM, List.all_eq_true, List.all_eq_true]
  constructor
  · intro hs p hp
    have hp := List.mem_range.1 hp
    have ht := h.lt _ _ (h.get (i := p / 5) (by omega))
    have := of_decide_eq_true (hs (t.getD (p / 5) 0 * 5 + p % 5) (List.mem_range.2 (by omega)))
    rw [show (t.getD (p / 5) 0 * 5 + p % 5) % 5 = p % 5 by omega] at this
    have := (step (p / 5) (p % 5) (by omega) (by omega)).1 this
    rw [show p / 5 * 5 + p % 5 = p by omega] at this
    exact decide_eq_true this
  · intro hs p hp
    have hp := List.mem_range.1 hp
    obtain ⟨i, hi, e⟩ := h.onto (y := p / 5) (by omega)
    have e2 : t.getD i 0 = p / 5 := getD_of e
    have := of_decide_eq_true (hs (i * 5 + p % 5) (List.mem_range.2 (by omega)))
    rw [show (i * 5 + p % 5) % 5 = p % 5 by omega] at this
    have := (step i (p % 5) hi (by omega)).2 this
    rw [e2, show p / 5 * 5 + p % 5 = p by omega] at this
    exact decide_eq_true this
/-! ### begun elsewhere -/
def turnN (s i : Nat) : Nat := if i = 0 then s else if i = s then 0 else i
theorem turnN_two (s i : Nat) : turnN s (turnN s i) = i := by unfold turnN; split <;> split <;> (try split) <;> omega
theorem turnN_lt {n s i : Nat} (hs : s < n) (hi : i < n) : turnN s i < n := by unfold turnN; split <;> (try split) <;> omega
def fromN (N : List Int) (n s : Nat) : List Int := (List.range (5 * n)).map fun i => (turnN s (N.getD (turnN s (i / 5) * 5 + i % 5) 0).toNat : Int)
def fromA (A : List Bool) (s : Nat) : List Bool := (List.range A.length).map fun i => A.getD (turnN s i) false
theorem fromN_at (N : List Int) {n s p : Nat} (hp : p < 5 * n) : (fromN N n s).getD p 0 = (turnN s (N.getD (turnN s (p / 5) * 5 + p % 5) 0).toNat : Int) := by
  unfold fromN
  rw [List.getD_eq_getElem?_getD, List.getElem?_map, List.getElem?_range hp]
  rfl
theorem fromA_len (A s) : (fromA A s).length = A.length := by simp [fromA]
theorem fromA_at {A : List Bool} {s i : Nat} (hi : i < A.length) : (fromA A s).getD i false = A.getD (turnN s i) false := by
  unfold fromA
  rw [List.getD_eq_getElem?_getD, List.getElem?_map, List.getElem?_range hi]
  rfl
theorem from_okD {N A} (h : OkD N A) {s : Nat} (hs : s < A.length) : OkD (fromN N A.length s) (fromA A s) := by
  refine ⟨by rw [fromA_len]; exact h.l, fun p hp => ?_⟩
  rw [fromA_len] at hp ⊢
  rw [fromN_at N hp]
  have h1 := turnN_lt (i := p / 5) hs (by omega)
  have h2 := turnN_lt hs (h.next (m := p % 5) h1 (by omega))
  omega
theorem from_eqv {N A} (h : OkD N A) {s : Nat} (hs : s < A.length) : Eqv N A (fromN N A.length s) (fromA A s) s 0 := by
  have hk := from_okD h hs
  have e := hom_eqv (N := N) (A := A) (φ := turnN s) hk (fun y hy => fromA_at (by rw [fromA_len] at hy; exact hy)) (fun y m hy hm => by
    rw [fromA_len] at hy
    rw [fromN_at N (by omega), Int.toNat_natCast, turnN_two, show (y * 5 + m) / 5 = y by omega, show (y * 5 + m) % 5 = m by omega]) hk.l
  exact e
end Go.Proofs.YtpmjpogcaglphaaDoor.A
/- Words in their order, plainly: the word behind one. -/
namespace Go.Proofs.YtpmjpogcaglphaaDoor.A
open Go
set_option maxRecDepth 20000
def codeF (c : Nat) (w : List Nat) : Nat := w.foldl (fun c m => 5 * c + m + 1) c
theorem codeW_app (u v : List Nat) : codeW (u ++ v) = codeF (codeW u) v := by simp [codeW, codeF]
theorem codeF_carry (c : Nat) : ∀ k : Nat, codeF c (List.replicate k 4) + 1 = codeF (c + 1) (List.replicate k 0)
  | 0 => rfl
  | k + 1 => by
    have := codeF_carry (5 * c + 4 + 1) k
    simp only [List.replicate_succ]
    show codeF (5 * c + 4 + 1) (List.replicate k 4) + 1 = codeF (5 * (c + 1) + 0 + 1) (List.replicate k 0)
    rw [this, show 5 * (c + 1) + 0 + 1 = 5 * c + 4 + 1 + 1 by omega]
/-- The word behind one, where the last digits are full. -/
theorem code_next (u : List Nat) (d k : Nat) : codeW (u ++ [d + 1] ++ List.replicate k 0) = codeW (u ++ [d] ++ List.replicate k 4) + 1 := by
  rw [codeW_app, codeW_app (u ++ [d]), codeF_carry, codeW_snoc, codeW_snoc, show 5 * codeW u + (d + 1) + 1 = 5 * codeW u + d + 1 + 1 by omega]
theorem code_over (k : Nat) : codeW (List.replicate (k + 1) 0) = codeW (List.replicate k 4) + 1 := by
  have := codeF_carry 0 k
  show codeF 0 (List.replicate (k + 1) 0) = codeF 0 (List.replicate k 4) + 1
  rw [this]
  rfl
theorem codeW_inj : ∀ (n : Nat) (u v : List Nat), u.length = n → (∀ z ∈ u, z < 5) → (∀ z ∈ v, z < 5) → codeW u = codeW v → u = v
  | 0, u, v, hn, _, _, e => by
    have : u = [] := List.length_eq_zero_iff.1 hn
    subst this
    rcases snoc_cases v with rfl | ⟨v, m, rfl⟩
    · rfl
    · rw [codeW_snoc] at e
      have : codeW [] = 0 := rfl
      omega
  | n + 1, u, v, hn, hu, hv, e => by
    rcases snoc_cases u with rfl | ⟨u, a, rfl⟩
    · simp at hn
    · rcases snoc_cases v with rfl | ⟨v, b, rfl⟩
      · rw [codeW_snoc] at e
        have : codeW [] = 0 := rfl
        omega
      · rw [codeW_snoc, codeW_snoc] at e
        have ha := hu a (by simp)
        have hb := hv b (by simp)
        have h1 : codeW u = codeW v := by omega
        have h2 : a = b := by omega
        rw [codeW_inj n u v (by simpa using hn) (fun z hz => hu z (by simp [hz])) (fun z hz => hv z (by simp [hz])) h1, h2]
end Go.Proofs.YtpmjpogcaglphaaDoor.A
/- What all laws' rows share: arguments that read are data. -/
namespace Go.Proofs.YtpmjpogcaglphaaDoor.A
open Go
theorem shaped_int {P : Program} {d : Nat} {t : TypeId} {xs : List AV} (hu : P.underlying t = some (.int .i64)) (h : Shaped P d t xs) : ∃ n, xs = [.int .i64 n] := by
  cases d with
  | zero => exact h.elim
  | succ d =>
    unfold Shaped at h
    rw [hu] at h
    obtain ⟨n, e, _⟩ := h
    exact ⟨n, e⟩
theorem ints_of {P : Program} {d : Nat} {t : TypeId} (hu : P.underlying t = some (.int .i64)) : ∀ parts : List (List AV), (∀ p ∈ parts, Shaped P d t p) → ∃ ns : List Int, parts.length = ns.length ∧ parts.flatten = cI ns
  | [], _ => ⟨[], rfl, rfl⟩
  | p :: parts, h => by
    obtain ⟨n, rfl⟩ := shaped_int hu (h p (List.mem_cons_self ..))
    obtain ⟨ns, h1, h2⟩ := ints_of hu parts (fun q hq => h q (List.mem_cons_of_mem _ hq))
    exact ⟨n :: ns, by simp [h1], by simp [cI, h2]⟩
theorem arg_ints {P : Program} {t e : TypeId} {x : AV} (hu : P.underlying t = some (.slice e)) (he : P.underlying e = some (.int .i64)) (h : ArgOf P t x) : ∃ ns : List Int, x = slI ns ∧ ns.length ≤ maxLen := by
  unfold ArgOf at h
  rw [hu] at h
  obtain ⟨d, h⟩ := h
  cases d with
  | zero => exact h.elim
  | succ d =>
    unfold Shaped at h
    rw [hu] at h
    obtain ⟨parts, e1, hle, h2⟩ := h
    injection e1 with e1 _
    obtain ⟨ns, h3, h4⟩ := ints_of he parts h2
    exact ⟨ns, by rw [e1, h3, h4], by omega⟩
theorem arg_bool {P : Program} {t : TypeId} {x : AV} (hu : P.underlying t = some .bool) (h : ArgOf P t x) : ∃ b, x = .bool b := by
  unfold ArgOf at h
  rw [hu] at h
  obtain ⟨d, h⟩ := h
  cases d with
  | zero => exact h.elim
  | succ d =>
    unfold Shaped at h
    rw [hu] at h
    obtain ⟨n, e⟩ := h
    injection e with e _
    exact ⟨n, e⟩
end Go.Proofs.YtpmjpogcaglphaaDoor.A
namespace Go.Proofs.YtpmjpogcaglphaaDoor
open Go Go.Proofs.YtpmjpogcaglphaaDoor.A
theorem Tryd.own : ownKnob Tryd.prog.godebug = none := by kernel_rfl
theorem Tryd.laidOut : laidOutB Tryd.prog = true := by kernel_rfl
end Go.Proofs.YtpmjpogcaglphaaDoor
/- A, part 33: a law's row that lists variables, from its contract. -/
namespace Go.Proofs.YtpmjpogcaglphaaDoor.A
open Go Go.ChangeShapes
theorem laidMetH_plain {P : Program} {L : List (String × DataW Unit)} (h : (L.filter fun x => x.2.handleName?.isSome) = []) (w : World) : laidMetH P L w = laidMet P L w := by
  unfold laidMetH
  rw [h]
theorem laidVars_at {P : Program} {w : World} {n : String} {d : DataW Unit} : ∀ {L : List (String × DataW Unit)} {ps : List MemPlace}, DataW.LaidVars P w L ps → (n, d) ∈ L →
    ∃ g t cs fuel p, P.globalNamed n = some g ∧ (P.globals[g]?).map (·.type) = some t ∧ w.var? P n = some cs ∧ DataW.trod (fun _ => ()) P w 0 (fun _ => true) false fuel t cs.toList = some (d, p)
  | [], _, _, h => by cases h
  | (m, e) :: L, ps, hv, h => by
    obtain ⟨g, t, cs, fuel, p, q, h1, h2, h3, h4, h5, _⟩ := hv
    rcases List.mem_cons.1 h with e1 | h
    · injection e1 with e1 e2
      subst e1 e2
      exact ⟨g, t, cs, fuel, p, h1, h2, h3, h4⟩
    · exact laidVars_at h5 h
theorem var_heap {P : Program} {w : World} {n : String} {g : Nat} {cs : Array Value} (hg : P.globalNamed n = some g) (h : w.var? P n = some cs) : ∃ t m, w.heap[g]? = some (.cells cs t m) := by
  unfold World.var? at h
  rw [hg] at h
  simp only [Option.bind_some] at h
  split at h
  · rename_i e
    injection h with h
    subst h
    exact ⟨_, _, e⟩
  · cases h
theorem law_laid {H : Type} {enc : TypeId × Value → H} {as_ : Assume} {C : Checked} {os : Os} {f : FuncId} {fn : Func} {s : ChangeSpec} {conds : List PathCond} {apart fresh handsOn again : Bool} {L : List (String × DataW Unit)} (hnoh : (L.filter fun x => x.2.handleName?.isSome) = [])
    (own : ownKnob C.prog.godebug = none) (started : os.Started) (noInit : C.prog.inits.idxOf? f = none) (hfn : C.prog.funcs[f]? = some fn)
    (witness : ∃ (w : World) (tape : Tape) (i : Input), w.os = os ∧ (w.forCall tape i).Shaped C.prog ∧ i.vars = [] ∧ Input.okWide C.prog (w.forCall tape i) .any w.heap.size f i ∧
      ((s.pre enc C.prog fn conds apart (w.forCall tape i).memory i.args ∧ laidMetH C.prog L (w.forCall tape i).memory) ∧ sizedMet enc C.prog fn (OpenSpec.ofChange s) apart (w.forCall tape i).memory i.args) ∧ as_.holds C.prog (lone (Frame.enter C.prog f i.args .normal) [] (w.forCall tape i)))
    (hl : laidOutB C.prog = true) {ks : List TypeId} (hk : dataTypes C.prog ks = true) (hks : fn.params.toList.all (fun t => ks.contains t && C.prog.readableRec t && decide (t < C.prog.types.size)) = true)
    {tb : TypeId} (hr : fn.resultTypes = #[tb]) (htb : C.prog.underlying tb = some .bool) (hv : s.vars = [])
    (hspec : ∀ ds : List (DataW H), ds.length = fn.params.toList.length → (s.fn H ds).results = [.lit (.bool true)] ∧ (s.fn H ds).args = ds ∧ (s.fn H ds).vars = [])
    (hgl : ∀ W, laidMetH C.prog L W → Gl (Old W) W) (hok : ∀ xs, ArgsOf C.prog fn.params.toList xs → Ok C.prog f xs (.bool true)) :
    ReturnsInHanded as_ C os f .any (fun w args => (s.pre enc C.prog fn conds apart w args ∧ laidMetH C.prog L w) ∧ sizedMet enc C.prog fn (OpenSpec.ofChange s) apart w args) (s.post enc C.prog fn apart fresh handsOn again) := by
  have hks' : ∀ t ∈ fn.params.toList, t ∈ ks ∧ C.prog.readableRec t = true ∧ t < C.prog.types.size := fun t ht => by
    have := List.all_eq_true.1 hks t ht
    simp only [Bool.and_eq_true, decide_eq_true_eq, List.contains_iff_mem] at this
    exact ⟨this.1.1, this.1.2, this.2⟩
  refine returnsInHanded_of_change_and (X := fun w _ => laidMetH C.prog L w) (fun w w' _ hh h => by rw [laidMetH_plain hnoh] at h ⊢; exact laidMet.of_heap hh h) own started noInit hfn witness ?_
  intro W base args ds gs before hval hW _ _ hmet _
  have hWc := hW
  obtain ⟨p, q, hA, hV, rfl, hfz, hnd⟩ := hW
  have hlen := trods_length hA
  have hgs : gs = [] := by
    rw [hv] at hV
    exact (trodVars_none hV).1
  subst hgs
  obtain ⟨xs, hx1, hx2⟩ := args_shape hl hk (fun t ht => (hks' t ht).1) (fun j t v ht hv' => hval j t v (by simpa using ht) (by simpa using hv')) hA
  obtain ⟨_, hc⟩ := hok xs hx1
  have := hc (Old W) W args.toList hx2 (fun b hb => hb) (hgl W hmet)
  refine Calls.mono (by simpa using this) ?_
  rintro e W' ⟨v, S', rfl, hb, hpr, _, _⟩
  cases hpr
  refine ⟨_, rfl, law_post hl hWc hv hr htb ?_ (fun t ht => (hks' t ht).2) hb⟩
  rw [List.append_nil]
  exact hspec ds hlen
/-! ### a world whose listed variables are laid -/
def litV : Lit → Value
  | .int k n => .int k n
  | .bool b => .bool b
  | .string s => .string ⟨s.toArray⟩
  | _ => default
def laidCells : DataW Unit → Array Value
  | .agg l => (l.map fun x => match x with | .lit v => litV v | _ => default).toArray
  | .lit v => #[litV v]
  | _ => #[]
/-- Variable k holds these cells. -/
def layW (w : World) (k : Nat) (cells : Array Value) : World := { w with heap := w.heap.modify k fun
  | .cells _ t frozen => .cells cells t frozen
  | o => o }
end Go.Proofs.YtpmjpogcaglphaaDoor.A
/- A world whose listed variables are laid; what a tied card asks. -/
namespace Go.Proofs.YtpmjpogcaglphaaDoor
open Go Go.Proofs.YtpmjpogcaglphaaDoor.A
set_option maxRecDepth 100000
abbrev laidL : List (String × DataW Unit) := [("math/bits.deBruijn32tab", Rows.laid_math_bits_deBruijn32tab), ("math/bits.deBruijn64tab", Rows.laid_math_bits_deBruijn64tab), ("internal/strconv.uint64pow10", Rows.laid_internal_strconv_uint64pow10)]
theorem laidL_noh : (laidL.filter fun x => x.2.handleName?.isSome) = [] := by kernel_rfl
noncomputable def laidWorld (os : Os) : World :=
  layW (layW (layW (World.holding Tryd.prog os ⟨#[], #[], []⟩) ((Tryd.prog.globalNamed "internal/strconv.uint64pow10").getD 0) (laidCells Rows.laid_internal_strconv_uint64pow10)) ((Tryd.prog.globalNamed "math/bits.deBruijn32tab").getD 0) (laidCells Rows.laid_math_bits_deBruijn32tab)) ((Tryd.prog.globalNamed "math/bits.deBruijn64tab").getD 0) (laidCells Rows.laid_math_bits_deBruijn64tab)
theorem laidWorld_met (os : Os) (args : Array Value) : laidMetH Tryd.prog laidL ((laidWorld os).forCall (fun _ _ => 0) ⟨#[], args, []⟩).memory := by
  rw [laidMetH_plain laidL_noh]
  exact laidMet_of_run' 80 (by kernel_rfl) (by kernel_rfl)
theorem laid_gl (W : World) (h : laidMetH Tryd.prog laidL W) : Gl (Old W) W := by
  rw [laidMetH_plain laidL_noh] at h
  obtain ⟨ps, hv, _⟩ := h
  obtain ⟨g, t, cs, fuel, p, h1, h2, h3, h4⟩ := laidVars_at (n := "internal/strconv.uint64pow10") (d := Lib.tabData .u64 Lib.pow10Tab) hv (List.mem_cons_of_mem _ (List.mem_cons_of_mem _ (by rw [show (Lib.tabData .u64 Lib.pow10Tab : DataW Unit) = Rows.laid_internal_strconv_uint64pow10 by kernel_rfl]; exact List.mem_cons_self ..)))
  obtain ⟨ty, m, hh⟩ := var_heap h1 h3
  obtain rfl : 1 = g := Option.some.inj ((show Tryd.prog.globalNamed "internal/strconv.uint64pow10" = some 1 by kernel_rfl).symm.trans h1)
  obtain rfl : 175 = t := Option.some.inj ((show (Tryd.prog.globals[1]?).map (·.type) = some 175 by kernel_rfl).symm.trans h2)
  have hc := Lib.cells_of_tab (e := 169) (n := 20) (by kernel_rfl) (by kernel_rfl) (by kernel_rfl) (by kernel_rfl) h4
  intro x hx
  obtain rfl : x = (1, Lib.pow10Tab.map fun z => Value.int .u64 z) := List.mem_singleton.1 hx
  refine ⟨(Array.getElem?_eq_some_iff.1 hh).1, ty, m, ?_⟩
  rw [hh, ← hc]
theorem wants_all {P : Program} {l : Array TypeId} (h : (l.toList.all fun t => !P.wantsStandIn t) = true) {j : Nat} {t : TypeId} (ht : l[j]? = some t) : P.wantsStandIn t = false := by
  have := List.all_eq_true.1 h t (by
    rw [← Array.getElem?_toList] at ht
    exact List.mem_of_getElem? ht)
  simpa using this
end Go.Proofs.YtpmjpogcaglphaaDoor
/- Words of numbers. -/
namespace Go.Proofs.YtpmjpogcaglphaaDoor.A
open Go
set_option maxRecDepth 20000
/-! ### words -/
def wordOf (ns : List Int) (most few : Int) : List Int := (ns.take most.toNat).map fun x => x % (1 + few % 5)
theorem lookWord (X) : lookedAt (EX md0 X) (fun _ => none) 3 Tryd.f29 = true := by kernel_rfl
theorem word_ok (ns : List Int) (most few : Int) (hm : 0 ≤ most ∧ most ≤ 1000) : Ok Tryd.prog 29 [slI ns, .int .i64 most, .int .i64 few] (slI (wordOf ns most few)) := by
  obtain ⟨most, rfl⟩ := Int.eq_ofNat_of_zero_le hm.1
  refine ok_of_WP (E := EX md0 (tabLook [(56, tRel RW)])) (cr := noR) (tab_cons (tab_nil _) (tRel_ok within1_ok)) (noR_ok _) mixed (k := most + 1) Tryd.func29 (lookWord _) rfl ?_
  have h37 : ∀ a n : Int, 0 < n → n ≤ 1000000 → tabLook [(56, tRel RW)] 56 [.int .i64 a, .int .i64 n] = some (.int .i64 (a % n)) := fun a n h1 h2 => rw_eq h1 h2
  have hf0 := Int.emod_nonneg few (show (5 : Int) ≠ 0 by decide)
  have hf5 := Int.emod_lt_of_pos few (show (0 : Int) < 5 by decide)
  simp only [Tryd.f29, Option.getD_some]
  simp (disch := omega) only [go_sem, ↓IntWalk.iteOmega, IntWalk.toNatUp, Nat.reduceEqDiff, Nat.reduceAdd, Nat.reduceMul, Nat.reduceSub, Nat.reduceLT, Nat.reduceLeDiff, Int.reduceToNat, Int.reduceLT, Int.reduceLE, Int.reduceEq, Int.reduceAdd, Int.reduceSub, Int.reduceMul, Int.toNat_natCast, reduceCtorEq, decide_true, decide_false, IntWalk.i64_in, IntWalk.u64_in, IntWalk.u8_in]
  refine WP_loop (fun m a o nx => ∃ i, i ≤ ns.length ∧ i ≤ most ∧ m = most - i ∧ a 0 = slI ns ∧ a 1 = .int .i64 most ∧ a 2 = .int .i64 few ∧ a 8 = .int .i64 i ∧ HS 3 1 30 o nx (a 7) i (cI ((ns.take i).map fun x => x % (1 + few % 5)))) most ?_ ?_ ?_
  · omega
  · refine ⟨0, by omega, by omega, by omega, ?_⟩
    simp (disch := omega) only [go_sem, ↓IntWalk.iteOmega, IntWalk.toNatUp, Nat.reduceEqDiff, Nat.reduceAdd, Nat.reduceMul, Nat.reduceSub, Nat.reduceLT, Nat.reduceLeDiff, Int.reduceToNat, Int.reduceLT, Int.reduceLE, Int.reduceEq, Int.reduceAdd, Int.reduceSub, Int.reduceMul, Int.toNat_natCast, reduceCtorEq, decide_true, decide_false, IntWalk.i64_in, IntWalk.u64_in, IntWalk.u8_in, List.take_zero]
    exact HS.nil
  · rintro m a o nx ⟨i, hi, him, rfl, h0, h1, h2, h8, hHS⟩
    by_cases hlt : i < ns.length
    · by_cases hlm : i < most
      · have hg := cI_get (s := 1) hlt
        have htk := take_succ_getD hlt 0
        generalize ns.getD i 0 = x at hg htk
        generalize hv : a 7 = v at hHS
        rcases hHS with ⟨rfl, e2, e3⟩ | ⟨i1, g1, rfl, hi1, hrow, hlen⟩
        · simp (disch := omega) only [go_sem, ↓IntWalk.iteOmega, IntWalk.toNatUp, Nat.reduceEqDiff, Nat.reduceAdd, Nat.reduceMul, Nat.reduceSub, Nat.reduceLT, Nat.reduceLeDiff, Int.reduceToNat, Int.reduceLT, Int.reduceLE, Int.reduceEq, Int.reduceAdd, Int.reduceSub, Int.reduceMul, Int.toNat_natCast, reduceCtorEq, decide_true, decide_false, IntWalk.i64_in, IntWalk.u64_in, IntWalk.u8_in, h0, h1, h2, h8, hv, hg, h37]
          have e4 : (ns.take i).map (fun x => x % (1 + few % 5)) = [] := cI_inj e3
          refine ⟨_, ?_, i + 1, by omega, by omega, rfl, rfl, .inr ⟨nx + 1, (nx + 1, 30), ?_, by omega, ?_, ?_⟩⟩
          · omega
          · rw [e2]
          · rw [htk, List.map_append, e4]; simp [upd_app, cI]
          · rw [htk, List.map_append, e4, e2]; rfl
        · have hall : (cI ((ns.take i).map fun x => x % (1 + few % 5))).take i = cI ((ns.take i).map fun x => x % (1 + few % 5)) := take_len (by rw [hlen, Nat.mul_one])
          rw [Nat.mul_one] at hlen
          simp (disch := omega) only [go_sem, ↓IntWalk.iteOmega, IntWalk.toNatUp, Nat.reduceEqDiff, Nat.reduceAdd, Nat.reduceMul, Nat.reduceSub, Nat.reduceLT, Nat.reduceLeDiff, Int.reduceToNat, Int.reduceLT, Int.reduceLE, Int.reduceEq, Int.reduceAdd, Int.reduceSub, Int.reduceMul, Int.toNat_natCast, reduceCtorEq, decide_true, decide_false, IntWalk.i64_in, IntWalk.u64_in, IntWalk.u8_in, h0, h1, h2, h8, hv, hg, hrow, h37, hlen, hall]
          refine ⟨_, ?_, i + 1, by omega, by omega, rfl, rfl, .inr ⟨i1, (nx + 1, 30), rfl, by omega, ?_, ?_⟩⟩
          · omega
          · rw [htk, List.map_append, cI_app]; simp [upd_app, cI]
          · rw [htk, List.map_append, cI_app, List.length_append, hlen]; simp [cI]
      · have hie : i = most := by omega
        have hvw := hHS.view 1011
        rw [view_cI] at hvw
        simp (disch := omega) only [go_sem, ↓IntWalk.iteOmega, IntWalk.toNatUp, Nat.reduceEqDiff, Nat.reduceAdd, Nat.reduceMul, Nat.reduceSub, Nat.reduceLT, Nat.reduceLeDiff, Int.reduceToNat, Int.reduceLT, Int.reduceLE, Int.reduceEq, Int.reduceAdd, Int.reduceSub, Int.reduceMul, Int.toNat_natCast, reduceCtorEq, decide_true, decide_false, IntWalk.i64_in, IntWalk.u64_in, IntWalk.u8_in, h0, h1, h2, h8, hvw]
        have e : ((ns.take i).map fun x => x % (1 + few % 5)) = wordOf ns most few := by rw [hie]; rfl
        rw [e]
        have : (wordOf ns most few).length = i := by rw [wordOf, List.length_map, List.length_take, Int.toNat_natCast]; omega
        rw [slI, this]
    · have hie : i = ns.length := by omega
      have hvw := hHS.view 1011
      rw [view_cI] at hvw
      simp (disch := omega) only [go_sem, ↓IntWalk.iteOmega, IntWalk.toNatUp, Nat.reduceEqDiff, Nat.reduceAdd, Nat.reduceMul, Nat.reduceSub, Nat.reduceLT, Nat.reduceLeDiff, Int.reduceToNat, Int.reduceLT, Int.reduceLE, Int.reduceEq, Int.reduceAdd, Int.reduceSub, Int.reduceMul, Int.toNat_natCast, reduceCtorEq, decide_true, decide_false, IntWalk.i64_in, IntWalk.u64_in, IntWalk.u8_in, h0, h1, h2, h8, hvw]
      have e : ((ns.take i).map fun x => x % (1 + few % 5)) = wordOf ns most few := by rw [wordOf, Int.toNat_natCast, List.take_of_length_le (by omega), List.take_of_length_le (by omega)]
      rw [e]
      have : (wordOf ns most few).length = i := by rw [wordOf, List.length_map, List.length_take, Int.toNat_natCast]; omega
      rw [slI, this]

def RWord (args : List AV) (r : AV) : Prop := ∃ (ns : List Int) (most few : Int), (0 ≤ most ∧ most ≤ 1000) ∧ args = [slI ns, .int .i64 most, .int .i64 few] ∧ r = slI (wordOf ns most few)
theorem RWord_fn : Fun1 RWord := by
  rintro args r r' ⟨a, b, c, _, rfl, rfl⟩ ⟨a', b', c', _, h, rfl⟩
  simp only [List.cons.injEq, AV.int.injEq, AV.sl.injEq, true_and, and_true] at h
  obtain ⟨⟨_, h1⟩, h2, h3⟩ := h
  rw [cI_inj h1, h2, h3]
theorem RWord_ok (args r) (h : RWord args r) : Ok Tryd.prog 29 args r := by obtain ⟨a, b, c, h, rfl, rfl⟩ := h; exact word_ok a b c h
theorem wordOf_le (ns : List Int) (most few : Int) : (wordOf ns most few).length ≤ most.toNat := by rw [wordOf, List.length_map, List.length_take]; omega
end Go.Proofs.YtpmjpogcaglphaaDoor.A
/- Machines of one way, of numbers: the contract of law7.Make; words of it. -/
namespace Go.Proofs.YtpmjpogcaglphaaDoor.A
open Go
set_option maxRecDepth 20000
abbrev N7 (size : Int) (ns : List Int) (acc : Int) : List Int := next7 (size7 size) ns acc (size7 size)
abbrev A7 (size : Int) (acc : Int) : List Bool := accs7 acc (size7 size)
abbrev made7V (size : Int) (ns : List Int) (acc : Int) : AV := dfaV (size7 size) (N7 size ns acc) (A7 size acc)
theorem make7_ok (size : Int) (ns : List Int) (acc : Int) : Ok Tryd.prog 15 [.int .i64 size, slI ns, .int .i64 acc] (made7V size ns acc) := by
  refine ok_of_WP (E := EX md0 XW7) (cr := noR) XW7_ok (noR_ok _) mixed (k := 20) Tryd.func15 (look7M _) rfl (WP_mono (make7_wp _ size ns acc _ _) ?_)
  rintro u a o nx ⟨rfl, vN, vA, hM, h6, ho6⟩
  have v1 := hM.n.view 1010
  have v2 := hM.a.view 1010
  rw [view_cI] at v1
  rw [view_cB] at v2
  have hl := accs7_len acc (size7 size)
  refine ⟨.inr rfl, ?_⟩
  simp only [Tryd.f15]
  simp (disch := omega) only [go_sem, ↓IntWalk.iteOmega, IntWalk.toNatUp, Nat.reduceEqDiff, Nat.reduceAdd, Nat.reduceMul, Nat.reduceSub, Nat.reduceLT, Nat.reduceLeDiff, Int.reduceToNat, Int.reduceLT, Int.reduceLE, Int.reduceEq, Int.reduceAdd, Int.reduceSub, Int.reduceMul, Int.toNat_natCast, reduceCtorEq, decide_true, decide_false, IntWalk.i64_in, IntWalk.u64_in, IntWalk.u8_in, h6, ho6, v1, v2]
  rw [made7V, dfaV, slB, accs7_len]
theorem goD_good {n N A} (h : WfD n N A) : ∀ (w : List Int) (s : Int), (∀ x ∈ w, 0 ≤ x ∧ x < 5) → 0 ≤ s → s < (n : Int) → 0 ≤ goD N s w ∧ goD N s w < (n : Int)
  | [], s, _, h1, h2 => by rw [goD]; omega
  | m :: w, s, hx, h1, h2 => by
    have hm := hx m (by simp)
    rw [goD, if_neg (by omega)]
    have := h.get (k := s.toNat * 5 + m.toNat) (by omega)
    exact goD_good h w _ (fun x hx' => hx x (List.mem_cons_of_mem _ hx')) this.1 this.2
theorem wordOf_in (ns : List Int) (most : Int) : ∀ x ∈ wordOf ns most 4, 0 ≤ x ∧ x < 5 := by
  intro x hx
  obtain ⟨y, _, rfl⟩ := List.mem_map.1 hx
  have h1 := Int.emod_nonneg y (show (1 + 4 % 5 : Int) ≠ 0 by decide)
  have h2 := Int.emod_lt_of_pos y (show (0 : Int) < 1 + 4 % 5 by decide)
  exact ⟨h1, by omega⟩
def RMk7 (args : List AV) (r : AV) : Prop := ∃ (size : Int) (ns : List Int) (acc : Int), args = [.int .i64 size, slI ns, .int .i64 acc] ∧ r = made7V size ns acc
theorem RMk7_fn : Fun1 RMk7 := by
  rintro args r r' ⟨a, b, c, rfl, rfl⟩ ⟨a', b', c', h, rfl⟩
  simp only [List.cons.injEq, AV.int.injEq, AV.sl.injEq, true_and, and_true] at h
  obtain ⟨h1, ⟨_, h2⟩, h3⟩ := h
  rw [h1, cI_inj h2, h3]
theorem RMk7_ok (args r) (h : RMk7 args r) : Ok Tryd.prog 15 args r := by obtain ⟨a, b, c, rfl, rfl⟩ := h; exact make7_ok a b c
end Go.Proofs.YtpmjpogcaglphaaDoor.A
/- stringslite.IndexByte: where a byte is first met. -/
namespace Go.Proofs.YtpmjpogcaglphaaDoor.A
open Go
noncomputable def ren4 : Shelf.Ren := ⟨fun x => if x = 217 then 98 else if x = 266 then 100 else 0, fun x => x, fun x => x⟩
theorem lays4 : Lays.n217 Tryd.prog ren4 where
  mixed := mixed
  f217 := by kernel_rfl
  f266 := by kernel_rfl
  t3 := by kernel_rfl
  a3 := run_isAgg_plain (show Tryd.prog.underlying 3 = some (.int .i64) by kernel_rfl) rfl
  z3 := fun w => by kernel_rfl
  v3 := fun w => by kernel_rfl
  t5 := by kernel_rfl
  a5 := run_isAgg_plain (show Tryd.prog.underlying 5 = some (.int .u8) by kernel_rfl) rfl
  z5 := fun w => by kernel_rfl
  v5 := fun w => by kernel_rfl
  t9 := by kernel_rfl
  a9 := run_isAgg_plain (show Tryd.prog.underlying 9 = some .string by kernel_rfl) rfl
  z9 := fun w => by kernel_rfl
  v9 := fun w => by kernel_rfl
def RIx (args : List AV) (r : AV) : Prop := ∃ (s : List UInt8) (c : Int), args = [.str s, .int .u8 c] ∧ r = .int .i64 (Lib.indexByte s c.toNat.toUInt8)
theorem RIx_ok (args r) (h : RIx args r) : Ok Tryd.prog 98 args r := by
  obtain ⟨s, c, rfl, rfl⟩ := h
  refine ⟨⟨Tryd.f98, Tryd.func98, by kernel_rfl, by kernel_rfl⟩, fun S w cargs ha hS _ => ?_⟩
  obtain ⟨hl, hr⟩ := ha
  match cargs, hl with
  | [u, v], _ =>
    have h0 := hr 0 _ _ rfl rfl
    have h1 := hr 1 _ _ rfl rfl
    cases h0
    cases h1
    refine (Any.stringslite_IndexByte lays4 ⟨s.toArray⟩ c w).mono ?_
    rintro e w' ⟨rfl, rfl⟩
    exact ⟨_, S, rfl, RowKit.Below.refl _ _, .int _ _, fun _ h => h, fun b hb => ⟨.inl hb, hS b hb⟩⟩
end Go.Proofs.YtpmjpogcaglphaaDoor.A
/- law8's 'known' answers true: one run by the kernel. -/
namespace Go.Proofs.YtpmjpogcaglphaaDoor.A
open Go
def mode8 (f : FuncId) : Mode := if f = 98 then .ext true else if f ∈ [99, 101, 102, 103, 71, 87, 88, 72, 86, 19, 27, 17, 81, 95, 51, 52, 53, 61, 62] then .pure true else if f ∈ [69, 45, 75, 46, 47, 79, 96, 97, 16, 24, 40, 41] then .pure false else .raw false
def ext8 : FuncId → List AV → Option AV := fun f args => if f = 98 then (match args with | [.str s, .int .u8 c] => some (.int .i64 (Lib.indexByte s c.toNat.toUInt8)) | _ => none) else none
noncomputable def E8 : Env := { P := Tryd.prog, mode := mode8, ext := ext8 }
theorem ext8_ok : CPSound Tryd.prog ext8 := by
  intro g args r h
  unfold ext8 at h
  split at h
  · rename_i e
    subst e
    split at h
    · rename_i s c
      injection h with h
      subst h
      exact RIx_ok _ _ ⟨s, c, rfl, rfl⟩
    · cases h
  · cases h
theorem known8_run : (calls E8 60).1 14 [] = some (.bool true) := by kernel_rfl
theorem known8_ok : Ok Tryd.prog 14 [] (.bool true) := ok_calls (E := E8) ext8_ok mixed known8_run
end Go.Proofs.YtpmjpogcaglphaaDoor.A
/- The table of contracts for the closed laws of least machines. -/
namespace Go.Proofs.YtpmjpogcaglphaaDoor.A
open Go
def RKn8 (args : List AV) (r : AV) : Prop := args = [] ∧ r = .bool true
theorem RKn8_fn : Fun1 RKn8 := by rintro args r r' ⟨_, rfl⟩ ⟨_, rfl⟩; rfl
theorem RKn8_ok (args r) (h : RKn8 args r) : Ok Tryd.prog 14 args r := by obtain ⟨rfl, rfl⟩ := h; exact known8_ok
noncomputable def XM8 : FuncId → List AV → Option AV := tabLook [(14, tRel RKn8), (24, (calls E8 1000).1 24), (19, (calls E8 1000).1 19), (30, tRel RW)]
theorem XM8_ok : CPSound Tryd.prog XM8 := tab_cons (tab_cons (tab_cons (tab_cons (tab_nil _) (tRel_ok within4_ok)) (fun args r h => ok_calls (E := E8) ext8_ok mixed h)) (fun args r h => ok_calls (E := E8) ext8_ok mixed h)) (tRel_ok RKn8_ok)
theorem XM8_known : XM8 14 [] = some (.bool true) := tRel_eq (R := RKn8) RKn8_fn ⟨rfl, rfl⟩
theorem XM8_within (a n : Int) (h1 : 0 < n) (h2 : n ≤ 1000000) : XM8 30 [.int .i64 a, .int .i64 n] = some (.int .i64 (a % n)) := rw_eq h1 h2
/-- One text: its machine has so many states, is steady or not. -/
noncomputable def mknChk (x : List UInt8 × Int × Bool) : Bool := match XM8 24 [.str x.1] with
  | some (.tup [.agg [.sl n cs, .sl m bs], .int .i64 0]) => decide ((n : Int) = x.2.1) && (match XM8 19 [.agg [.sl n cs, .sl m bs]] with | some (.bool v) => v == x.2.2 | _ => false)
  | _ => false
theorem mkn_one {x : List UInt8 × Int × Bool} (hc : mknChk x = true) : ∃ n cs m bs, XM8 24 [.str x.1] = some (.tup [.agg [.sl n cs, .sl m bs], .int .i64 0]) ∧ (n : Int) = x.2.1 ∧ XM8 19 [.agg [.sl n cs, .sl m bs]] = some (.bool x.2.2) := by
  unfold mknChk at hc
  split at hc
  · rename_i n cs m bs e
    rw [Bool.and_eq_true] at hc
    refine ⟨n, cs, m, bs, e, of_decide_eq_true hc.1, ?_⟩
    have h2 := hc.2
    split at h2
    · rename_i v e2
      rw [e2, eq_of_beq h2]
    · cases h2
  · cases hc
end Go.Proofs.YtpmjpogcaglphaaDoor.A
