/- MiniFirst answers true for whatever it is called with; the input reads as it did. -/
import Derived.Test.YtpmjpogcaglphaaDoorME91
import Derived.Test.YtpmjpogcaglphaaDoorME92
import Derived.Test.YtpmjpogcaglphaaDoorME93
import Derived.Test.YtpmjpogcaglphaaDoorME94
import Derived.Test.YtpmjpogcaglphaaDoorME95
import Derived.Test.YtpmjpogcaglphaaDoorME96
import Derived.Test.YtpmjpogcaglphaaDoorME97
import Derived.Test.YtpmjpogcaglphaaDoorME98
import Derived.Test.YtpmjpogcaglphaaDoorME99
import Derived.Test.YtpmjpogcaglphaaDoorME141
set_option linter.unusedVariables false
set_option linter.unusedSimpArgs false
set_option linter.unnecessarySimpa false
/- Words in their order: the law's same and next. -/
namespace Go.Proofs.YtpmjpogcaglphaaDoor.A
open Go
set_option maxRecDepth 20000
theorem lookS8 (X) : lookedAt (EX md0 X) (fun _ => none) 2 Tryd.f36 = true := by kernel_rfl
theorem same8_ok (x y : List Int) (hx : x.length ≤ 1000000) : Ok Tryd.prog 36 [slI x, slI y] (.bool (decide (x = y))) := by
  refine ok_of_WP (E := EX md0 (fun _ _ => none)) (cr := noR) (tab_nil _) (noR_ok _) mixed (k := x.length + 1) Tryd.func36 (lookS8 _) rfl ?_
  simp only [Tryd.f36, Option.getD_some]
  simp (disch := omega) only [go_sem, ↓IntWalk.iteOmega, IntWalk.toNatUp, Nat.reduceEqDiff, Nat.reduceAdd, Nat.reduceMul, Nat.reduceSub, Nat.reduceLT, Nat.reduceLeDiff, Int.reduceToNat, Int.reduceLT, Int.reduceLE, Int.reduceEq, Int.reduceAdd, Int.reduceSub, Int.reduceMul, Int.toNat_natCast, reduceCtorEq, decide_true, decide_false, IntWalk.i64_in, IntWalk.u64_in, IntWalk.u8_in]
  refine WP_loop (fun m a o nx => ∃ i, i ≤ x.length ∧ i ≤ y.length ∧ m = x.length - i ∧ x.take i = y.take i ∧ a 0 = slI x ∧ a 1 = slI y ∧ a 5 = .int .i64 i) x.length (by omega) ⟨0, by omega, by omega, by omega, rfl, by simp (disch := omega) only [go_sem, ↓IntWalk.iteOmega, IntWalk.toNatUp, Nat.reduceEqDiff, Nat.reduceAdd, Nat.reduceMul, Nat.reduceSub, Nat.reduceLT, Nat.reduceLeDiff, Int.reduceToNat, Int.reduceLT, Int.reduceLE, Int.reduceEq, Int.reduceAdd, Int.reduceSub, Int.reduceMul, Int.toNat_natCast, reduceCtorEq, decide_true, decide_false, IntWalk.i64_in, IntWalk.u64_in, IntWalk.u8_in], by simp (disch := omega) only [go_sem, ↓IntWalk.iteOmega, IntWalk.toNatUp, Nat.reduceEqDiff, Nat.reduceAdd, Nat.reduceMul, Nat.reduceSub, Nat.reduceLT, Nat.reduceLeDiff, Int.reduceToNat, Int.reduceLT, Int.reduceLE, Int.reduceEq, Int.reduceAdd, Int.reduceSub, Int.reduceMul, Int.toNat_natCast, reduceCtorEq, decide_true, decide_false, IntWalk.i64_in, IntWalk.u64_in, IntWalk.u8_in], by simp (disch := omega) only [go_sem, ↓IntWalk.iteOmega, IntWalk.toNatUp, Nat.reduceEqDiff, Nat.reduceAdd, Nat.reduceMul, Nat.reduceSub, Nat.reduceLT, Nat.reduceLeDiff, Int.reduceToNat, Int.reduceLT, Int.reduceLE, Int.reduceEq, Int.reduceAdd, Int.reduceSub, Int.reduceMul, Int.toNat_natCast, reduceCtorEq, decide_true, decide_false, IntWalk.i64_in, IntWalk.u64_in, IntWalk.u8_in]⟩ ?_
  rintro m a o nx ⟨i, hi, hiy, rfl, htk, h0, h1, h5⟩
  by_cases hlt : i < x.length
  · by_cases hly : i < y.length
    · have hat := cI_get (s := 1) hlt
      have hat2 := cI_get (l := y) (i := i) (s := 1) hly
      have hs1 := take_succ_getD hlt 0
      have hs2 := take_succ_getD hly 0
      generalize hp : x.getD i 0 = p at hat hs1
      generalize hq : y.getD i 0 = q at hat2 hs2
      by_cases hpq : p = q
      · simp (disch := omega) only [go_sem, ↓IntWalk.iteOmega, IntWalk.toNatUp, Nat.reduceEqDiff, Nat.reduceAdd, Nat.reduceMul, Nat.reduceSub, Nat.reduceLT, Nat.reduceLeDiff, Int.reduceToNat, Int.reduceLT, Int.reduceLE, Int.reduceEq, Int.reduceAdd, Int.reduceSub, Int.reduceMul, Int.toNat_natCast, reduceCtorEq, decide_true, decide_false, IntWalk.i64_in, IntWalk.u64_in, IntWalk.u8_in, h0, h1, h5, hat, hat2, hpq]
        exact ⟨_, by omega, i + 1, by omega, by omega, rfl, by rw [hs1, hs2, htk, hpq], rfl⟩
      · rw [decide_eq_false (fun e => hpq (by rw [← hp, ← hq, e]))]
        simp (disch := omega) only [go_sem, ↓IntWalk.iteOmega, IntWalk.toNatUp, Nat.reduceEqDiff, Nat.reduceAdd, Nat.reduceMul, Nat.reduceSub, Nat.reduceLT, Nat.reduceLeDiff, Int.reduceToNat, Int.reduceLT, Int.reduceLE, Int.reduceEq, Int.reduceAdd, Int.reduceSub, Int.reduceMul, Int.toNat_natCast, reduceCtorEq, decide_true, decide_false, IntWalk.i64_in, IntWalk.u64_in, IntWalk.u8_in, h0, h1, h5, hat, hat2, hpq]
    · rw [decide_eq_false (fun e => hly (by rw [← e]; exact hlt))]
      simp (disch := omega) only [go_sem, ↓IntWalk.iteOmega, IntWalk.toNatUp, Nat.reduceEqDiff, Nat.reduceAdd, Nat.reduceMul, Nat.reduceSub, Nat.reduceLT, Nat.reduceLeDiff, Int.reduceToNat, Int.reduceLT, Int.reduceLE, Int.reduceEq, Int.reduceAdd, Int.reduceSub, Int.reduceMul, Int.toNat_natCast, reduceCtorEq, decide_true, decide_false, IntWalk.i64_in, IntWalk.u64_in, IntWalk.u8_in, h0, h1, h5]
  · by_cases hle : (x.length : Int) = y.length
    · rw [decide_eq_true (by rw [← List.take_of_length_le (l := x) (i := i) (by omega), htk, List.take_of_length_le (by omega)])]
      simp (disch := omega) only [go_sem, ↓IntWalk.iteOmega, IntWalk.toNatUp, Nat.reduceEqDiff, Nat.reduceAdd, Nat.reduceMul, Nat.reduceSub, Nat.reduceLT, Nat.reduceLeDiff, Int.reduceToNat, Int.reduceLT, Int.reduceLE, Int.reduceEq, Int.reduceAdd, Int.reduceSub, Int.reduceMul, Int.toNat_natCast, reduceCtorEq, decide_true, decide_false, IntWalk.i64_in, IntWalk.u64_in, IntWalk.u8_in, h0, h1, h5, hle]
    · rw [decide_eq_false (fun e => hle (by rw [e]))]
      simp (disch := omega) only [go_sem, ↓IntWalk.iteOmega, IntWalk.toNatUp, Nat.reduceEqDiff, Nat.reduceAdd, Nat.reduceMul, Nat.reduceSub, Nat.reduceLT, Nat.reduceLeDiff, Int.reduceToNat, Int.reduceLT, Int.reduceLE, Int.reduceEq, Int.reduceAdd, Int.reduceSub, Int.reduceMul, Int.toNat_natCast, reduceCtorEq, decide_true, decide_false, IntWalk.i64_in, IntWalk.u64_in, IntWalk.u8_in, h0, h1, h5, hle]
/-- The word behind one: the last digit that is not full is one more. -/
def nxtAt (w : List Nat) : Nat → List Nat
  | 0 => List.replicate (w.length + 1) 0
  | i + 1 => if w.getD i 0 + 1 < 5 then w.take i ++ [w.getD i 0 + 1] ++ List.replicate (w.length - (i + 1)) 0 else nxtAt w i
theorem tail_full {w : List Nat} {i : Nat} (hi : i ≤ w.length) (h : ∀ p, i ≤ p → p < w.length → w.getD p 0 = 4) : w = w.take i ++ List.replicate (w.length - i) 4 := by
  refine List.ext_getElem (by simp; omega) fun p h1 h2 => ?_
  by_cases hp : p < i
  · rw [List.getElem_append_left (by simp; omega)]
    simp
  · rw [List.getElem_append_right (by simp; omega), List.getElem_replicate]
    have := h p (by omega) h1
    simpa [List.getD, h1] using this
theorem nxt_ok {w : List Nat} (hw : ∀ z ∈ w, z < 5) : ∀ i, i ≤ w.length → (∀ p, i ≤ p → p < w.length → w.getD p 0 = 4) → codeW (nxtAt w i) = codeW w + 1 ∧ (∀ z ∈ nxtAt w i, z < 5) ∧ (nxtAt w i).length ≤ w.length + 1
  | 0, hi, h => by
    have e := tail_full hi h
    rw [List.take_zero, List.nil_append, Nat.sub_zero] at e
    refine ⟨?_, fun z hz => ?_, ?_⟩
    · rw [nxtAt, code_over]
      rw [← e]
    · rw [nxtAt] at hz
      rw [(List.mem_replicate.1 hz).2]; omega
    · rw [nxtAt]; simp
  | i + 1, hi, h => by
    have hmem : w.getD i 0 < 5 := by
      rw [List.getD_eq_getElem?_getD, List.getElem?_eq_getElem (by omega)]
      exact hw _ (List.getElem_mem ..)
    rw [nxtAt]
    by_cases hd : w.getD i 0 + 1 < 5
    · rw [if_pos hd]
      have e := tail_full hi h
      rw [take_succ_getD (by omega) 0] at e
      refine ⟨?_, fun z hz => ?_, ?_⟩
      · rw [code_next]
        rw [← e]
      · rcases List.mem_append.1 hz with hz | hz
        · rcases List.mem_append.1 hz with hz | hz
          · exact hw z (List.mem_of_mem_take hz)
          · rw [List.mem_singleton.1 hz]; exact hd
        · rw [(List.mem_replicate.1 hz).2]; omega
      · simp; omega
    · rw [if_neg hd]
      refine nxt_ok hw i (by omega) fun p hp hp2 => ?_
      by_cases hpi : p = i
      · rw [hpi]; omega
      · exact h p (by omega) hp2
def nxtW (w : List Nat) : List Nat := nxtAt w w.length
theorem nxtW_ok {w : List Nat} (hw : ∀ z ∈ w, z < 5) : codeW (nxtW w) = codeW w + 1 ∧ (∀ z ∈ nxtW w, z < 5) ∧ (nxtW w).length ≤ w.length + 1 := nxt_ok hw _ (Nat.le_refl _) (fun p h1 h2 => by omega)
theorem lookNx (X) : lookedAt (EX md0 X) (fun _ => none) 1 Tryd.f37 = true := by kernel_rfl
theorem next8_ok {w : List Nat} (hw : ∀ z ∈ w, z < 5) (hl : w.length ≤ 1000) : Ok Tryd.prog 37 [slI (nL w)] (slI (nL (nxtW w))) := by
  refine ok_of_WP (E := EX md0 (fun _ _ => none)) (cr := noR) (tab_nil _) (noR_ok _) mixed (k := w.length + 1) Tryd.func37 (lookNx _) rfl ?_
  have h0l : (cI (nL w)).length = w.length := by rw [cI_length, nL_len]
  have hnl := nL_len w
  simp only [Tryd.f37, Option.getD_some]
  simp (disch := omega) only [go_sem, ↓IntWalk.iteOmega, IntWalk.toNatUp, Nat.reduceEqDiff, Nat.reduceAdd, Nat.reduceMul, Nat.reduceSub, Nat.reduceLT, Nat.reduceLeDiff, Int.reduceToNat, Int.reduceLT, Int.reduceLE, Int.reduceEq, Int.reduceAdd, Int.reduceSub, Int.reduceMul, Int.toNat_natCast, reduceCtorEq, decide_true, decide_false, IntWalk.i64_in, IntWalk.u64_in, IntWalk.u8_in, h0l, hnl, List.take_zero, List.nil_append, Nat.zero_mul, Nat.zero_add]
  refine WP_loop (fun m a o nx => ∃ i : Nat, i ≤ w.length ∧ m = i ∧ 2 ≤ nx ∧ nxtW w = nxtAt w i ∧ a 3 = .ref (1, 5) (1, 7) 0 w.length ∧ a 4 = .int .i64 i ∧ o (1, 5) = some (.row ⟨3, 1, (1, 7), false, true, cI (nL (w.take i) ++ List.replicate (w.length - i) 0)⟩)) w.length (by omega)
    ⟨w.length, by omega, rfl, by omega, rfl, by simp (disch := omega) only [go_sem, ↓IntWalk.iteOmega, IntWalk.toNatUp, Nat.reduceEqDiff, Nat.reduceAdd, Nat.reduceMul, Nat.reduceSub, Nat.reduceLT, Nat.reduceLeDiff, Int.reduceToNat, Int.reduceLT, Int.reduceLE, Int.reduceEq, Int.reduceAdd, Int.reduceSub, Int.reduceMul, Int.toNat_natCast, reduceCtorEq, decide_true, decide_false, IntWalk.i64_in, IntWalk.u64_in, IntWalk.u8_in], by simp (disch := omega) only [go_sem, ↓IntWalk.iteOmega, IntWalk.toNatUp, Nat.reduceEqDiff, Nat.reduceAdd, Nat.reduceMul, Nat.reduceSub, Nat.reduceLT, Nat.reduceLeDiff, Int.reduceToNat, Int.reduceLT, Int.reduceLE, Int.reduceEq, Int.reduceAdd, Int.reduceSub, Int.reduceMul, Int.toNat_natCast, reduceCtorEq, decide_true, decide_false, IntWalk.i64_in, IntWalk.u64_in, IntWalk.u8_in], by rw [List.take_length, Nat.sub_self, List.replicate_zero, List.append_nil]; simp (disch := omega) only [go_sem, ↓IntWalk.iteOmega, IntWalk.toNatUp, Nat.reduceEqDiff, Nat.reduceAdd, Nat.reduceMul, Nat.reduceSub, Nat.reduceLT, Nat.reduceLeDiff, Int.reduceToNat, Int.reduceLT, Int.reduceLE, Int.reduceEq, Int.reduceAdd, Int.reduceSub, Int.reduceMul, Int.toNat_natCast, reduceCtorEq, decide_true, decide_false, IntWalk.i64_in, IntWalk.u64_in, IntWalk.u8_in]⟩ ?_
  rintro m a o nx ⟨i, hi, hmi, hnx, hnw, h3, h4, o5⟩
  subst hmi
  have hrl : (cI (nL (w.take m) ++ List.replicate (w.length - m) 0)).length = w.length := by rw [cI_length, List.length_append, nL_len, List.length_replicate, List.length_take]; omega
  cases m with
  | zero =>
    rw [hnw, nxtAt]
    rw [List.take_zero, Nat.sub_zero] at o5
    have e : cI (nL [] ++ List.replicate w.length 0) ++ [.int .i64 0] = cI (nL (List.replicate (w.length + 1) 0)) := by
      rw [List.replicate_succ']
      simp [nL, cI]
    have htk : (cI (nL [] ++ List.replicate w.length 0)).take w.length = cI (nL [] ++ List.replicate w.length 0) := take_len (by simp [nL, cI])
    have hrl' : (cI (nL [] ++ List.replicate w.length 0)).length = w.length := by simp [nL, cI]
    have htk2 : (cI (nL (List.replicate (w.length + 1) 0))).take (w.length + 1) = cI (nL (List.replicate (w.length + 1) 0)) := take_len (by simp [nL, cI])
    have hl2 : (cI (nL (List.replicate (w.length + 1) 0))).length = w.length + 1 := by simp [nL, cI]
    simp (disch := omega) only [go_sem, ↓IntWalk.iteOmega, IntWalk.toNatUp, Nat.reduceEqDiff, Nat.reduceAdd, Nat.reduceMul, Nat.reduceSub, Nat.reduceLT, Nat.reduceLeDiff, Int.reduceToNat, Int.reduceLT, Int.reduceLE, Int.reduceEq, Int.reduceAdd, Int.reduceSub, Int.reduceMul, Int.toNat_natCast, reduceCtorEq, decide_true, decide_false, IntWalk.i64_in, IntWalk.u64_in, IntWalk.u8_in, h3, h4, o5, htk, hrl', e, htk2, hl2]
    rw [slI, nL_len, List.length_replicate]
  | succ i =>
    have hlen : (nL (w.take (i + 1))).length = i + 1 := by rw [nL_len, List.length_take]; omega
    have htks := take_succ_getD (l := w) (i := i) (by omega) 0
    have hrow : nL (w.take (i + 1)) ++ List.replicate (w.length - (i + 1)) 0 = nL (w.take i) ++ ((w.getD i 0 : Nat) : Int) :: List.replicate (w.length - (i + 1)) 0 := by
      rw [htks, nL_app, List.append_assoc]; rfl
    rw [hrow] at o5 hrl
    have hti : (w.take i).length = i := by rw [List.length_take]; omega
    have hg := take1_new (w.take i) (List.replicate (w.length - (i + 1)) 0) i 1 ((w.getD i 0 : Nat) : Int) hti
    have hset := fun v u => splice_again (w.take i) (List.replicate (w.length - (i + 1)) 0) i v u hti
    have hg2 := fun v => take1_new (w.take i) (List.replicate (w.length - (i + 1)) 0) i 1 v hti
    have hrl2 : ∀ v : Int, (cI (nL (w.take i) ++ v :: List.replicate (w.length - (i + 1)) 0)).length = w.length := fun v => by rw [cI_length, List.length_append, nL_len, List.length_cons, List.length_replicate, hti]; omega
    have hk1 : (((i + 1 : Nat) : Int) - 1).toNat = i := by omega
    have hdlt : w.getD i 0 < 5 := by
      rw [List.getD_eq_getElem?_getD, List.getElem?_eq_getElem (by omega)]
      exact hw _ (List.getElem_mem ..)
    rw [nxtAt] at hnw
    by_cases hd : w.getD i 0 + 1 < 5
    · rw [if_pos hd] at hnw
      have hd' : ((w.getD i 0 : Nat) : Int) + 1 < 5 := by omega
      have hres : cI (nL (w.take i) ++ (((w.getD i 0 : Nat) : Int) + 1) :: List.replicate (w.length - (i + 1)) 0) = cI (nL (nxtW w)) := by
        rw [hnw, nL_app, nL_app, List.append_assoc]
        simp [nL]
      have hrl3 : (nL (nxtW w)).length = w.length := by rw [hnw, nL_len]; simp; omega
      have htk3 : (cI (nL (nxtW w))).take w.length = cI (nL (nxtW w)) := take_len (by rw [cI_length, hrl3])
      have hl3 : (cI (nL (nxtW w))).length = w.length := by rw [cI_length, hrl3]
      have hg3 := hg2 (((w.getD i 0 : Nat) : Int) + 1)
      rw [hres] at hg3
      have hset3 := hset ((w.getD i 0 : Nat) : Int) (((w.getD i 0 : Nat) : Int) + 1)
      rw [hres] at hset3
      generalize w.getD i 0 = d at *
      simp (disch := omega) only [go_sem, ↓IntWalk.iteOmega, IntWalk.toNatUp, Nat.reduceEqDiff, Nat.reduceAdd, Nat.reduceMul, Nat.reduceSub, Nat.reduceLT, Nat.reduceLeDiff, Int.reduceToNat, Int.reduceLT, Int.reduceLE, Int.reduceEq, Int.reduceAdd, Int.reduceSub, Int.reduceMul, Int.toNat_natCast, reduceCtorEq, decide_true, decide_false, IntWalk.i64_in, IntWalk.u64_in, IntWalk.u8_in, h3, h4, o5, hrl, hg, hset3, hg3, hk1, hd', htk3, hl3]
      rw [slI, hrl3]
    · rw [if_neg hd] at hnw
      have hd' : ¬ ((w.getD i 0 : Nat) : Int) + 1 < 5 := by omega
      have hrow0 : cI (nL (w.take i) ++ 0 :: List.replicate (w.length - (i + 1)) 0) = cI (nL (w.take i) ++ List.replicate (w.length - i) 0) := by
        obtain ⟨c, hc⟩ : ∃ c, w.length - i = c + 1 := ⟨w.length - i - 1, by omega⟩
        rw [hc, show w.length - (i + 1) = c by omega, List.replicate_succ]
      generalize w.getD i 0 = d at *
      simp (disch := omega) only [go_sem, ↓IntWalk.iteOmega, IntWalk.toNatUp, Nat.reduceEqDiff, Nat.reduceAdd, Nat.reduceMul, Nat.reduceSub, Nat.reduceLT, Nat.reduceLeDiff, Int.reduceToNat, Int.reduceLT, Int.reduceLE, Int.reduceEq, Int.reduceAdd, Int.reduceSub, Int.reduceMul, Int.toNat_natCast, reduceCtorEq, decide_true, decide_false, IntWalk.i64_in, IntWalk.u64_in, IntWalk.u8_in, h3, h4, o5, hrl, hrl2, hg, hset, hg2, hk1, hd', hrow0]
      exact ⟨i, by omega, i, by omega, rfl, hnw, by congr 1; omega, rfl⟩
def RS8 (args : List AV) (r : AV) : Prop := ∃ x y : List Int, x.length ≤ 1000000 ∧ args = [slI x, slI y] ∧ r = .bool (decide (x = y))
theorem RS8_fn : Fun1 RS8 := by
  rintro args r r' ⟨x, y, _, rfl, rfl⟩ ⟨x', y', _, h, rfl⟩
  simp only [List.cons.injEq, and_true] at h
  rw [slI_inj h.1, slI_inj h.2]
theorem RS8_ok (args r) (h : RS8 args r) : Ok Tryd.prog 36 args r := by obtain ⟨x, y, h1, rfl, rfl⟩ := h; exact same8_ok x y h1
def RNx (args : List AV) (r : AV) : Prop := ∃ w : List Nat, (∀ z ∈ w, z < 5) ∧ w.length ≤ 1000 ∧ args = [slI (nL w)] ∧ r = slI (nL (nxtW w))
theorem RNx_fn : Fun1 RNx := by
  rintro args r r' ⟨w, _, _, rfl, rfl⟩ ⟨w', _, _, h, rfl⟩
  simp only [List.cons.injEq, and_true] at h
  rw [nL_inj (slI_inj h)]
theorem RNx_ok (args r) (h : RNx args r) : Ok Tryd.prog 37 args r := by obtain ⟨w, h1, h2, rfl, rfl⟩ := h; exact next8_ok h1 h2
noncomputable def XM2 : FuncId → List AV → Option AV := tabLook [(14, tRel RKn8), (15, tRel RMk7), (32, tRel RRn), (30, tRel RW), (33, tRel RFar), (36, tRel RS8), (37, tRel RNx)]
theorem XM2_ok : CPSound Tryd.prog XM2 := tab_cons (tab_cons (tab_cons (tab_cons (tab_cons (tab_cons (tab_cons (tab_nil _) (tRel_ok RNx_ok)) (tRel_ok RS8_ok)) (tRel_ok RFar_mini)) (tRel_ok within4_ok)) (tRel_ok RRn_ok)) (tRel_ok RMk7_ok)) (tRel_ok RKn8_ok)
theorem XM2_known : XM2 14 [] = some (.bool true) := tRel_eq (R := RKn8) RKn8_fn ⟨rfl, rfl⟩
theorem XM2_make (size : Int) (ns : List Int) (acc : Int) : XM2 15 [.int .i64 size, slI ns, .int .i64 acc] = some (dV (size7 size) (N7 size ns acc) (A7 size acc)) := by
  rw [← dV_of (accs7_len acc (size7 size))]
  exact tRel_eq (R := RMk7) RMk7_fn ⟨_, _, _, rfl, rfl⟩
theorem XM2_run {n N A} (h : WfD n N A) (w : List Int) (hl : w.length ≤ 1000000) : XM2 32 [dV n N A, slI w] = some (.bool (runD n N A w)) := by
  rw [← dV_of h.a]
  exact tRel_eq (R := RRn) RRn_fn ⟨_, _, _, _, h, hl, rfl, rfl⟩
theorem XM2_within (a n : Int) (h1 : 0 < n) (h2 : n ≤ 1000000) : XM2 30 [.int .i64 a, .int .i64 n] = some (.int .i64 (a % n)) := rw_eq h1 h2
theorem XM2_far {n N A k M B} (h : WfD n N A) (h' : WfD k M B) : XM2 33 [dV n N A, dV k M B] = some (apV (farM N A M B)) := by
  rw [← dV_of h.a, ← dV_of h'.a]
  exact tRel_eq (R := RFar) RFar_fn ⟨_, _, _, _, _, _, h, h', rfl, rfl⟩
theorem XM2_same (x y : List Int) (h : x.length ≤ 1000000) : XM2 36 [slI x, slI y] = some (.bool (decide (x = y))) := tRel_eq (R := RS8) RS8_fn ⟨_, _, h, rfl, rfl⟩
theorem XM2_next {w : List Nat} (h1 : ∀ z ∈ w, z < 5) (h2 : w.length ≤ 1000) : XM2 37 [slI (nL w)] = some (slI (nL (nxtW w))) := tRel_eq (R := RNx) RNx_fn ⟨_, h1, h2, rfl, rfl⟩
end Go.Proofs.YtpmjpogcaglphaaDoor.A
/- A word that tells two machines apart is no longer than the pairs are many. -/
namespace Go.Proofs.YtpmjpogcaglphaaDoor.A
open Go
set_option maxRecDepth 20000
theorem back_len {l : List Ent} (hb : BackL l) : ∀ (n k : Nat) (e : Ent), k < n → l[k]? = some e → e.w.length ≤ k
  | 0, k, _, hk, _ => by omega
  | n + 1, k, e, hk, he => by
    rcases hb.case he with ⟨_, a2⟩ | ⟨j, f, _, a2, a3, a4⟩
    · rw [a2]; exact Nat.zero_le _
    · have := back_len hb n j f (by omega) a3
      rw [a4, List.length_append]
      simp
      omega
theorem pFar_len {N A M B} (hA : OkD N A) (hB : OkD M B) : ∀ (r i : Nat) (l : List Ent) (c : Nat), QMid N A M B i l c → (∀ e, l[i]? = some e → QMid N A M B i l (5 * codeW e.w + 1)) → ∀ w, pFar N A M B r i l = some (some w) → w.length ≤ A.length * B.length
  | 0, i, l, c, _, _, w, h => by cases h
  | r + 1, i, l, c, hq, hqn, w, h => by
    obtain ⟨r', hr, hs⟩ := pFar_step h
    have hr : r = r' := by omega
    subst hr
    rcases hs with ⟨_, hres⟩ | ⟨e, he, hs⟩
    · cases hres
    · have hQ := hqn e he
      rcases hs with ⟨hab, hp⟩ | ⟨_, hres⟩
      · have hR := pRow_ok hQ he hab 5 (Nat.le_refl _)
        exact pFar_len hA hB r (i + 1) _ _ hR.done hR.next w hp
      · injection hres with hres
        subst hres
        have h1 := back_len hQ.backL (i + 1) i e (by omega) he
        have h2 := (hQ.few hA hB).1
        have h3 := (List.getElem?_eq_some_iff.1 he).1
        omega
theorem far_len {N A M B} (hA : OkD N A) (hB : OkD M B) {w : List Nat} (h : farM N A M B = some w) : w.length ≤ A.length * B.length := by
  have h1 := (far_ok hA hB).1
  rw [h] at h1
  exact pFar_len hA hB _ 0 [ent0] 1 (QMid.start N A M B) (fun e he => by
    injection he with he
    subst he
    exact QMid.start N A M B) w h1
end Go.Proofs.YtpmjpogcaglphaaDoor.A
namespace Go.Proofs.YtpmjpogcaglphaaDoor.A
open Go
set_option maxRecDepth 20000
theorem lookMF : lookedAt (EX md0 XM2) (fun _ => none) 6 Tryd.f12 = true := by kernel_rfl
theorem run_good {n N A k M B} (hw : WfD n N A) (hw' : WfD k M B) {u : List Nat} (hu : ∀ z ∈ u, z < 5) (h : A.getD (goS N 0 u) false = B.getD (goS M 0 u) false) : runD n N A (nL u) = runD k M B (nL u) := by
  rw [show nL u = u.map fun m : Nat => (m : Int) from rfl, run_nat hw hu, run_nat hw' hu, h]
set_option maxHeartbeats 4000000 in
theorem mfi_ok (size : Int) (ns : List Int) (acc : Int) (other : Int) (ms : List Int) (bcc : Int) : Ok Tryd.prog 12 [.int .i64 size, slI ns, .int .i64 acc, .int .i64 other, slI ms, .int .i64 bcc] (.bool true) := by
  refine ok_of_WP (E := EX md0 XM2) (cr := noR) XM2_ok (noR_ok _) mixed (k := 900) Tryd.func12 lookMF rfl ?_
  have hkn := XM2_known
  have hwi1 := XM2_within size 4 (by omega) (by omega)
  have hwi2 := XM2_within other 4 (by omega) (by omega)
  have hz1 := (size7_in (size % 4)).2.1
  have hz2 := (size7_in (other % 4)).2.1
  have hw := wf7 (size % 4) ns acc
  have hw' := wf7 (other % 4) ms bcc
  have hmk := XM2_make (size % 4) ns acc
  have hmk' := XM2_make (other % 4) ms bcc
  generalize hn : size7 (size % 4) = n at *
  generalize hk : size7 (other % 4) = k at *
  have eN : N7 (size % 4) ns acc = next7 n ns acc n := by rw [N7, hn]
  have eA : A7 (size % 4) acc = accs7 acc n := by rw [A7, hn]
  have eM : N7 (other % 4) ms bcc = next7 k ms bcc k := by rw [N7, hk]
  have eB : A7 (other % 4) bcc = accs7 bcc k := by rw [A7, hk]
  rw [eN, eA] at hmk
  rw [eM, eB] at hmk'
  generalize next7 n ns acc n = N at *
  generalize accs7 acc n = A at *
  generalize next7 k ms bcc k = M at *
  generalize accs7 bcc k = B at *
  generalize size % 4 = sz1 at *
  generalize other % 4 = sz2 at *
  have hfar := (far_ok hw.okD hw'.okD).2
  have xf := XM2_far hw hw'
  have hrun := fun w hl => XM2_run hw w hl
  have hrun' := fun w hl => XM2_run hw' w hl
  have hzero : ∀ z ∈ ([] : List Nat), z < 5 := fun z hz => by cases hz
  simp only [Tryd.f12, Option.getD_some]
  cases hf : farM N A M B with
  | none =>
    rw [hf] at xf hfar
    have xf : XM2 33 [dV n N A, dV k M B] = some (.tup [.sl 0 [], .bool false]) := xf
    simp (disch := omega) only [go_sem, ↓IntWalk.iteOmega, IntWalk.toNatUp, Nat.reduceEqDiff, Nat.reduceAdd, Nat.reduceMul, Nat.reduceSub, Nat.reduceLT, Nat.reduceLeDiff, Int.reduceToNat, Int.reduceLT, Int.reduceLE, Int.reduceEq, Int.reduceAdd, Int.reduceSub, Int.reduceMul, Int.toNat_natCast, reduceCtorEq, decide_true, decide_false, IntWalk.i64_in, IntWalk.u64_in, IntWalk.u8_in, hkn, hwi1, hwi2, hmk, hmk', xf]
    refine WP_loop (fun mm a o nx => ∃ (q : Nat) (x : List Nat), q ≤ 800 ∧ mm = 800 - q ∧ 5 ≤ nx ∧ (∀ z ∈ x, z < 5) ∧ x.length ≤ 5 ∧ (a 17 = .ref (4, 37) (4, 37) 0 0 ∧ x = [] ∧ o (4, 37) = some (.row ⟨3, 1, (4, 37), false, true, []⟩) ∨ a 17 = slI (nL x)) ∧
        a 13 = .ptr (2, 13) (2, 13) 0 ∧ a 14 = .ptr (2, 14) (2, 14) 0 ∧ a 15 = .sl 0 [] ∧ a 16 = .bool false ∧ a 18 = .int .i64 q ∧ o (2, 13) = some (.row ⟨27, 1, (2, 13), false, true, [.sl n (cI N), .sl n (cB A)]⟩) ∧ o (2, 14) = some (.row ⟨27, 1, (2, 14), false, true, [.sl k (cI M), .sl k (cB B)]⟩)) 800 (by omega)
      ⟨0, [], by omega, by omega, by omega, hzero, by simp, .inl ⟨by simp (disch := omega) only [go_sem, ↓IntWalk.iteOmega, IntWalk.toNatUp, Nat.reduceEqDiff, Nat.reduceAdd, Nat.reduceMul, Nat.reduceSub, Nat.reduceLT, Nat.reduceLeDiff, Int.reduceToNat, Int.reduceLT, Int.reduceLE, Int.reduceEq, Int.reduceAdd, Int.reduceSub, Int.reduceMul, Int.toNat_natCast, reduceCtorEq, decide_true, decide_false, IntWalk.i64_in, IntWalk.u64_in, IntWalk.u8_in], rfl, by simp (disch := omega) only [go_sem, ↓IntWalk.iteOmega, IntWalk.toNatUp, Nat.reduceEqDiff, Nat.reduceAdd, Nat.reduceMul, Nat.reduceSub, Nat.reduceLT, Nat.reduceLeDiff, Int.reduceToNat, Int.reduceLT, Int.reduceLE, Int.reduceEq, Int.reduceAdd, Int.reduceSub, Int.reduceMul, Int.toNat_natCast, reduceCtorEq, decide_true, decide_false, IntWalk.i64_in, IntWalk.u64_in, IntWalk.u8_in]⟩, by simp (disch := omega) only [go_sem, ↓IntWalk.iteOmega, IntWalk.toNatUp, Nat.reduceEqDiff, Nat.reduceAdd, Nat.reduceMul, Nat.reduceSub, Nat.reduceLT, Nat.reduceLeDiff, Int.reduceToNat, Int.reduceLT, Int.reduceLE, Int.reduceEq, Int.reduceAdd, Int.reduceSub, Int.reduceMul, Int.toNat_natCast, reduceCtorEq, decide_true, decide_false, IntWalk.i64_in, IntWalk.u64_in, IntWalk.u8_in], by simp (disch := omega) only [go_sem, ↓IntWalk.iteOmega, IntWalk.toNatUp, Nat.reduceEqDiff, Nat.reduceAdd, Nat.reduceMul, Nat.reduceSub, Nat.reduceLT, Nat.reduceLeDiff, Int.reduceToNat, Int.reduceLT, Int.reduceLE, Int.reduceEq, Int.reduceAdd, Int.reduceSub, Int.reduceMul, Int.toNat_natCast, reduceCtorEq, decide_true, decide_false, IntWalk.i64_in, IntWalk.u64_in, IntWalk.u8_in], by simp (disch := omega) only [go_sem, ↓IntWalk.iteOmega, IntWalk.toNatUp, Nat.reduceEqDiff, Nat.reduceAdd, Nat.reduceMul, Nat.reduceSub, Nat.reduceLT, Nat.reduceLeDiff, Int.reduceToNat, Int.reduceLT, Int.reduceLE, Int.reduceEq, Int.reduceAdd, Int.reduceSub, Int.reduceMul, Int.toNat_natCast, reduceCtorEq, decide_true, decide_false, IntWalk.i64_in, IntWalk.u64_in, IntWalk.u8_in], by simp (disch := omega) only [go_sem, ↓IntWalk.iteOmega, IntWalk.toNatUp, Nat.reduceEqDiff, Nat.reduceAdd, Nat.reduceMul, Nat.reduceSub, Nat.reduceLT, Nat.reduceLeDiff, Int.reduceToNat, Int.reduceLT, Int.reduceLE, Int.reduceEq, Int.reduceAdd, Int.reduceSub, Int.reduceMul, Int.toNat_natCast, reduceCtorEq, decide_true, decide_false, IntWalk.i64_in, IntWalk.u64_in, IntWalk.u8_in], by simp (disch := omega) only [go_sem, ↓IntWalk.iteOmega, IntWalk.toNatUp, Nat.reduceEqDiff, Nat.reduceAdd, Nat.reduceMul, Nat.reduceSub, Nat.reduceLT, Nat.reduceLeDiff, Int.reduceToNat, Int.reduceLT, Int.reduceLE, Int.reduceEq, Int.reduceAdd, Int.reduceSub, Int.reduceMul, Int.toNat_natCast, reduceCtorEq, decide_true, decide_false, IntWalk.i64_in, IntWalk.u64_in, IntWalk.u8_in], by simp (disch := omega) only [go_sem, ↓IntWalk.iteOmega, IntWalk.toNatUp, Nat.reduceEqDiff, Nat.reduceAdd, Nat.reduceMul, Nat.reduceSub, Nat.reduceLT, Nat.reduceLeDiff, Int.reduceToNat, Int.reduceLT, Int.reduceLE, Int.reduceEq, Int.reduceAdd, Int.reduceSub, Int.reduceMul, Int.toNat_natCast, reduceCtorEq, decide_true, decide_false, IntWalk.i64_in, IntWalk.u64_in, IntWalk.u8_in], by simp (disch := omega) only [go_sem, ↓IntWalk.iteOmega, IntWalk.toNatUp, Nat.reduceEqDiff, Nat.reduceAdd, Nat.reduceMul, Nat.reduceSub, Nat.reduceLT, Nat.reduceLeDiff, Int.reduceToNat, Int.reduceLT, Int.reduceLE, Int.reduceEq, Int.reduceAdd, Int.reduceSub, Int.reduceMul, Int.toNat_natCast, reduceCtorEq, decide_true, decide_false, IntWalk.i64_in, IntWalk.u64_in, IntWalk.u8_in]⟩ ?_
    rintro mm a o nx ⟨q, x, hq, rfl, hnx, hx, hxl, h17, h13, h14, h15, h16, h18, o13, o14⟩
    by_cases hlt : q < 800
    · have hnl := nL_len x
      obtain ⟨_, n2, n3⟩ := nxtW_ok hx
      have hnx' := XM2_next hx (by omega)
      have r1 := hrun (nL x) (by omega)
      have r2 := hrun' (nL x) (by omega)
      rw [← run_good hw hw' hx (hfar x hx)] at r2
      have hbe : (runD n N A (nL x) == runD n N A (nL x)) = true := beq_self_eq_true _
      generalize runD n N A (nL x) = z at *
      rcases h17 with ⟨h17, rfl, o37⟩ | h17
      · have r1 : XM2 32 [dV n N A, .sl 0 []] = some (.bool z) := r1
        have r2 : XM2 32 [dV k M B, .sl 0 []] = some (.bool z) := r2
        have hnx' : XM2 37 [.sl 0 []] = some (slI (nL (nxtW []))) := hnx'
        simp (disch := omega) only [go_sem, ↓IntWalk.iteOmega, IntWalk.toNatUp, Nat.reduceEqDiff, Nat.reduceAdd, Nat.reduceMul, Nat.reduceSub, Nat.reduceLT, Nat.reduceLeDiff, Int.reduceToNat, Int.reduceLT, Int.reduceLE, Int.reduceEq, Int.reduceAdd, Int.reduceSub, Int.reduceMul, Int.toNat_natCast, reduceCtorEq, decide_true, decide_false, IntWalk.i64_in, IntWalk.u64_in, IntWalk.u8_in, h13, h14, h15, h16, h17, h18, o13, o14, o37, r1, r2, hnx', hbe, Bool.not_true, List.take_nil, List.drop_nil]
        exact ⟨800 - (q + 1), by omega, q + 1, nxtW [], by omega, rfl, by omega, by simp at n3; omega, rfl, rfl⟩
      · by_cases hl4 : (4 : Int) < (nL x).length
        · simp (disch := omega) only [go_sem, ↓IntWalk.iteOmega, IntWalk.toNatUp, Nat.reduceEqDiff, Nat.reduceAdd, Nat.reduceMul, Nat.reduceSub, Nat.reduceLT, Nat.reduceLeDiff, Int.reduceToNat, Int.reduceLT, Int.reduceLE, Int.reduceEq, Int.reduceAdd, Int.reduceSub, Int.reduceMul, Int.toNat_natCast, reduceCtorEq, decide_true, decide_false, IntWalk.i64_in, IntWalk.u64_in, IntWalk.u8_in, h13, h14, h15, h16, h17, h18, o13, o14, hl4, Bool.not_false]
        · simp (disch := omega) only [go_sem, ↓IntWalk.iteOmega, IntWalk.toNatUp, Nat.reduceEqDiff, Nat.reduceAdd, Nat.reduceMul, Nat.reduceSub, Nat.reduceLT, Nat.reduceLeDiff, Int.reduceToNat, Int.reduceLT, Int.reduceLE, Int.reduceEq, Int.reduceAdd, Int.reduceSub, Int.reduceMul, Int.toNat_natCast, reduceCtorEq, decide_true, decide_false, IntWalk.i64_in, IntWalk.u64_in, IntWalk.u8_in, h13, h14, h15, h16, h17, h18, o13, o14, hl4, r1, r2, hnx', hbe, Bool.not_true]
          exact ⟨800 - (q + 1), by omega, q + 1, nxtW x, by omega, rfl, by omega, by omega, rfl, rfl⟩
    · simp (disch := omega) only [go_sem, ↓IntWalk.iteOmega, IntWalk.toNatUp, Nat.reduceEqDiff, Nat.reduceAdd, Nat.reduceMul, Nat.reduceSub, Nat.reduceLT, Nat.reduceLeDiff, Int.reduceToNat, Int.reduceLT, Int.reduceLE, Int.reduceEq, Int.reduceAdd, Int.reduceSub, Int.reduceMul, Int.toNat_natCast, reduceCtorEq, decide_true, decide_false, IntWalk.i64_in, IntWalk.u64_in, IntWalk.u8_in, h13, h14, h15, h16, h18, o13, o14, Bool.not_false]
  | some w =>
    rw [hf] at xf hfar
    have xf : XM2 33 [dV n N A, dV k M B] = some (.tup [slI (nL w), .bool true]) := xf
    obtain ⟨hwg, hdf, hall⟩ := hfar
    have hwl := far_len hw.okD hw'.okD hf
    rw [hw.a, hw'.a] at hwl
    have hwl2 : w.length ≤ 1000000 := Nat.le_trans hwl (Nat.le_trans (Nat.mul_le_mul hz1 hz2) (by omega))
    have hnlw := nL_len w
    have r3 := hrun (nL w) (by omega)
    have r4 := hrun' (nL w) (by omega)
    have hbn : (runD n N A (nL w) == runD k M B (nL w)) = false := by
      refine beq_false_of_ne ?_
      rw [show nL w = w.map fun m : Nat => (m : Int) from rfl, run_nat hw hwg, run_nat hw' hwg]
      exact hdf
    generalize runD n N A (nL w) = za at *
    generalize runD k M B (nL w) = zb at *
    obtain ⟨W, hW⟩ : ∃ W, W = slI (nL w) := ⟨_, rfl⟩
    have hlW : ∀ o : Ob, aLen Tryd.prog o 22 W = some (.int .i64 (nL w).length) := fun o => by rw [hW]; rfl
    have hvW : ∀ (o : Ob) (d : Nat), view o d W = W := fun o d => by rw [hW]; exact view_sl ..
    rw [← hW] at xf r3 r4
    simp (disch := omega) only [go_sem, ↓IntWalk.iteOmega, IntWalk.toNatUp, Nat.reduceEqDiff, Nat.reduceAdd, Nat.reduceMul, Nat.reduceSub, Nat.reduceLT, Nat.reduceLeDiff, Int.reduceToNat, Int.reduceLT, Int.reduceLE, Int.reduceEq, Int.reduceAdd, Int.reduceSub, Int.reduceMul, Int.toNat_natCast, reduceCtorEq, decide_true, decide_false, IntWalk.i64_in, IntWalk.u64_in, IntWalk.u8_in, hkn, hwi1, hwi2, hmk, hmk', xf]
    refine WP_loop (fun mm a o nx => ∃ (q : Nat) (x : List Nat), q ≤ 800 ∧ mm = 800 - q ∧ 5 ≤ nx ∧ (∀ z ∈ x, z < 5) ∧ x.length ≤ 5 ∧ codeW x ≤ codeW w ∧ (a 17 = .ref (4, 37) (4, 37) 0 0 ∧ x = [] ∧ o (4, 37) = some (.row ⟨3, 1, (4, 37), false, true, []⟩) ∨ a 17 = slI (nL x)) ∧
        a 13 = .ptr (2, 13) (2, 13) 0 ∧ a 14 = .ptr (2, 14) (2, 14) 0 ∧ a 15 = W ∧ a 16 = .bool true ∧ a 18 = .int .i64 q ∧ o (2, 13) = some (.row ⟨27, 1, (2, 13), false, true, [.sl n (cI N), .sl n (cB A)]⟩) ∧ o (2, 14) = some (.row ⟨27, 1, (2, 14), false, true, [.sl k (cI M), .sl k (cB B)]⟩)) 800 (by omega)
      ⟨0, [], by omega, by omega, by omega, hzero, by simp, Nat.zero_le _, .inl ⟨by simp (disch := omega) only [go_sem, ↓IntWalk.iteOmega, IntWalk.toNatUp, Nat.reduceEqDiff, Nat.reduceAdd, Nat.reduceMul, Nat.reduceSub, Nat.reduceLT, Nat.reduceLeDiff, Int.reduceToNat, Int.reduceLT, Int.reduceLE, Int.reduceEq, Int.reduceAdd, Int.reduceSub, Int.reduceMul, Int.toNat_natCast, reduceCtorEq, decide_true, decide_false, IntWalk.i64_in, IntWalk.u64_in, IntWalk.u8_in], rfl, by simp (disch := omega) only [go_sem, ↓IntWalk.iteOmega, IntWalk.toNatUp, Nat.reduceEqDiff, Nat.reduceAdd, Nat.reduceMul, Nat.reduceSub, Nat.reduceLT, Nat.reduceLeDiff, Int.reduceToNat, Int.reduceLT, Int.reduceLE, Int.reduceEq, Int.reduceAdd, Int.reduceSub, Int.reduceMul, Int.toNat_natCast, reduceCtorEq, decide_true, decide_false, IntWalk.i64_in, IntWalk.u64_in, IntWalk.u8_in]⟩, by simp (disch := omega) only [go_sem, ↓IntWalk.iteOmega, IntWalk.toNatUp, Nat.reduceEqDiff, Nat.reduceAdd, Nat.reduceMul, Nat.reduceSub, Nat.reduceLT, Nat.reduceLeDiff, Int.reduceToNat, Int.reduceLT, Int.reduceLE, Int.reduceEq, Int.reduceAdd, Int.reduceSub, Int.reduceMul, Int.toNat_natCast, reduceCtorEq, decide_true, decide_false, IntWalk.i64_in, IntWalk.u64_in, IntWalk.u8_in], by simp (disch := omega) only [go_sem, ↓IntWalk.iteOmega, IntWalk.toNatUp, Nat.reduceEqDiff, Nat.reduceAdd, Nat.reduceMul, Nat.reduceSub, Nat.reduceLT, Nat.reduceLeDiff, Int.reduceToNat, Int.reduceLT, Int.reduceLE, Int.reduceEq, Int.reduceAdd, Int.reduceSub, Int.reduceMul, Int.toNat_natCast, reduceCtorEq, decide_true, decide_false, IntWalk.i64_in, IntWalk.u64_in, IntWalk.u8_in], by simp (disch := omega) only [go_sem, ↓IntWalk.iteOmega, IntWalk.toNatUp, Nat.reduceEqDiff, Nat.reduceAdd, Nat.reduceMul, Nat.reduceSub, Nat.reduceLT, Nat.reduceLeDiff, Int.reduceToNat, Int.reduceLT, Int.reduceLE, Int.reduceEq, Int.reduceAdd, Int.reduceSub, Int.reduceMul, Int.toNat_natCast, reduceCtorEq, decide_true, decide_false, IntWalk.i64_in, IntWalk.u64_in, IntWalk.u8_in], by simp (disch := omega) only [go_sem, ↓IntWalk.iteOmega, IntWalk.toNatUp, Nat.reduceEqDiff, Nat.reduceAdd, Nat.reduceMul, Nat.reduceSub, Nat.reduceLT, Nat.reduceLeDiff, Int.reduceToNat, Int.reduceLT, Int.reduceLE, Int.reduceEq, Int.reduceAdd, Int.reduceSub, Int.reduceMul, Int.toNat_natCast, reduceCtorEq, decide_true, decide_false, IntWalk.i64_in, IntWalk.u64_in, IntWalk.u8_in], by simp (disch := omega) only [go_sem, ↓IntWalk.iteOmega, IntWalk.toNatUp, Nat.reduceEqDiff, Nat.reduceAdd, Nat.reduceMul, Nat.reduceSub, Nat.reduceLT, Nat.reduceLeDiff, Int.reduceToNat, Int.reduceLT, Int.reduceLE, Int.reduceEq, Int.reduceAdd, Int.reduceSub, Int.reduceMul, Int.toNat_natCast, reduceCtorEq, decide_true, decide_false, IntWalk.i64_in, IntWalk.u64_in, IntWalk.u8_in], by simp (disch := omega) only [go_sem, ↓IntWalk.iteOmega, IntWalk.toNatUp, Nat.reduceEqDiff, Nat.reduceAdd, Nat.reduceMul, Nat.reduceSub, Nat.reduceLT, Nat.reduceLeDiff, Int.reduceToNat, Int.reduceLT, Int.reduceLE, Int.reduceEq, Int.reduceAdd, Int.reduceSub, Int.reduceMul, Int.toNat_natCast, reduceCtorEq, decide_true, decide_false, IntWalk.i64_in, IntWalk.u64_in, IntWalk.u8_in], by simp (disch := omega) only [go_sem, ↓IntWalk.iteOmega, IntWalk.toNatUp, Nat.reduceEqDiff, Nat.reduceAdd, Nat.reduceMul, Nat.reduceSub, Nat.reduceLT, Nat.reduceLeDiff, Int.reduceToNat, Int.reduceLT, Int.reduceLE, Int.reduceEq, Int.reduceAdd, Int.reduceSub, Int.reduceMul, Int.toNat_natCast, reduceCtorEq, decide_true, decide_false, IntWalk.i64_in, IntWalk.u64_in, IntWalk.u8_in]⟩ ?_
    rintro mm a o nx ⟨q, x, hq, rfl, hnx, hx, hxl, hcd, h17, h13, h14, h15, h16, h18, o13, o14⟩
    by_cases hlt : q < 800
    · have hnl := nL_len x
      obtain ⟨n1, n2, n3⟩ := nxtW_ok hx
      have hnx' := XM2_next hx (by omega)
      have r1 := hrun (nL x) (by omega)
      have r2 := hrun' (nL x) (by omega)
      have xs := XM2_same (nL x) (nL w) (by omega)
      rw [← show W = slI (nL w) from hW] at xs
      have hgo : x ≠ w → codeW x < codeW w ∧ runD k M B (nL x) = runD n N A (nL x) := fun hne => by
        have h1 : codeW x ≠ codeW w := fun e => hne (codeW_inj x.length x w rfl hx hwg e)
        exact ⟨by omega, (run_good hw hw' hx (hall x hx (by omega))).symm⟩
      have hbe : (runD n N A (nL x) == runD n N A (nL x)) = true := beq_self_eq_true _
      rcases h17 with ⟨h17, rfl, o37⟩ | h17
      · have r1 : XM2 32 [dV n N A, .sl 0 []] = some (.bool (runD n N A (nL []))) := r1
        have r2 : XM2 32 [dV k M B, .sl 0 []] = some (.bool (runD k M B (nL []))) := r2
        have hnx' : XM2 37 [.sl 0 []] = some (slI (nL (nxtW []))) := hnx'
        have xs : XM2 36 [.sl 0 [], W] = _ := xs
        by_cases hw0 : w = []
        · have hl0 : (0 : Int) = ((nL w).length : Nat) := by rw [hw0]; rfl
          rw [decide_eq_true (by rw [hw0])] at xs
          simp (disch := omega) only [go_sem, ↓IntWalk.iteOmega, IntWalk.toNatUp, Nat.reduceEqDiff, Nat.reduceAdd, Nat.reduceMul, Nat.reduceSub, Nat.reduceLT, Nat.reduceLeDiff, Int.reduceToNat, Int.reduceLT, Int.reduceLE, Int.reduceEq, Int.reduceAdd, Int.reduceSub, Int.reduceMul, Int.toNat_natCast, reduceCtorEq, decide_true, decide_false, IntWalk.i64_in, IntWalk.u64_in, IntWalk.u8_in, h13, h14, h15, h16, h17, h18, o13, o14, o37, hlW, hvW, hl0, xs, r3, r4, hbn, Bool.not_false, Bool.not_true, List.take_nil, List.drop_nil]
        · obtain ⟨g1, g2⟩ := hgo (fun e => hw0 e.symm)
          rw [g2] at r2
          have hl0 : ¬ (0 : Int) = ((nL w).length : Nat) := fun e => hw0 (List.length_eq_zero_iff.1 (by omega))
          generalize runD n N A (nL []) = z at *
          simp (disch := omega) only [go_sem, ↓IntWalk.iteOmega, IntWalk.toNatUp, Nat.reduceEqDiff, Nat.reduceAdd, Nat.reduceMul, Nat.reduceSub, Nat.reduceLT, Nat.reduceLeDiff, Int.reduceToNat, Int.reduceLT, Int.reduceLE, Int.reduceEq, Int.reduceAdd, Int.reduceSub, Int.reduceMul, Int.toNat_natCast, reduceCtorEq, decide_true, decide_false, IntWalk.i64_in, IntWalk.u64_in, IntWalk.u8_in, h13, h14, h15, h16, h17, h18, o13, o14, o37, hlW, hvW, hl0, r1, r2, hnx', hbe, Bool.not_false, Bool.not_true, List.take_nil, List.drop_nil]
          exact ⟨800 - (q + 1), by omega, q + 1, nxtW [], by omega, rfl, by omega, by simp at n3; omega, by omega, rfl, rfl⟩
      · by_cases hl4 : (4 : Int) < (nL x).length
        · simp (disch := omega) only [go_sem, ↓IntWalk.iteOmega, IntWalk.toNatUp, Nat.reduceEqDiff, Nat.reduceAdd, Nat.reduceMul, Nat.reduceSub, Nat.reduceLT, Nat.reduceLeDiff, Int.reduceToNat, Int.reduceLT, Int.reduceLE, Int.reduceEq, Int.reduceAdd, Int.reduceSub, Int.reduceMul, Int.toNat_natCast, reduceCtorEq, decide_true, decide_false, IntWalk.i64_in, IntWalk.u64_in, IntWalk.u8_in, h13, h14, h15, h16, h17, h18, o13, o14, hl4, hlW, hvW, r3, r4, hbn, Bool.not_false, Bool.not_true]
        · by_cases hxw : x = w
          · have hl0 : ((nL x).length : Int) = ((nL w).length : Nat) := by rw [hxw]
            rw [decide_eq_true (by rw [hxw])] at xs
            simp (disch := omega) only [go_sem, ↓IntWalk.iteOmega, IntWalk.toNatUp, Nat.reduceEqDiff, Nat.reduceAdd, Nat.reduceMul, Nat.reduceSub, Nat.reduceLT, Nat.reduceLeDiff, Int.reduceToNat, Int.reduceLT, Int.reduceLE, Int.reduceEq, Int.reduceAdd, Int.reduceSub, Int.reduceMul, Int.toNat_natCast, reduceCtorEq, decide_true, decide_false, IntWalk.i64_in, IntWalk.u64_in, IntWalk.u8_in, h13, h14, h15, h16, h17, h18, o13, o14, hl4, hlW, hvW, hl0, xs, r3, r4, hbn, Bool.not_false, Bool.not_true]
          · obtain ⟨g1, g2⟩ := hgo hxw
            rw [g2] at r2
            rw [decide_eq_false (fun e => hxw (nL_inj e))] at xs
            generalize runD n N A (nL x) = z at *
            by_cases hl0 : ((nL x).length : Int) = ((nL w).length : Nat)
            · simp (disch := omega) only [go_sem, ↓IntWalk.iteOmega, IntWalk.toNatUp, Nat.reduceEqDiff, Nat.reduceAdd, Nat.reduceMul, Nat.reduceSub, Nat.reduceLT, Nat.reduceLeDiff, Int.reduceToNat, Int.reduceLT, Int.reduceLE, Int.reduceEq, Int.reduceAdd, Int.reduceSub, Int.reduceMul, Int.toNat_natCast, reduceCtorEq, decide_true, decide_false, IntWalk.i64_in, IntWalk.u64_in, IntWalk.u8_in, h13, h14, h15, h16, h17, h18, o13, o14, hl4, hlW, hvW, hl0, xs, r1, r2, hnx', hbe, Bool.not_false, Bool.not_true]
              exact ⟨800 - (q + 1), by omega, q + 1, nxtW x, by omega, rfl, by omega, by omega, by omega, rfl, rfl⟩
            · simp (disch := omega) only [go_sem, ↓IntWalk.iteOmega, IntWalk.toNatUp, Nat.reduceEqDiff, Nat.reduceAdd, Nat.reduceMul, Nat.reduceSub, Nat.reduceLT, Nat.reduceLeDiff, Int.reduceToNat, Int.reduceLT, Int.reduceLE, Int.reduceEq, Int.reduceAdd, Int.reduceSub, Int.reduceMul, Int.toNat_natCast, reduceCtorEq, decide_true, decide_false, IntWalk.i64_in, IntWalk.u64_in, IntWalk.u8_in, h13, h14, h15, h16, h17, h18, o13, o14, hl4, hlW, hvW, hl0, r1, r2, hnx', hbe, Bool.not_false, Bool.not_true]
              exact ⟨800 - (q + 1), by omega, q + 1, nxtW x, by omega, rfl, by omega, by omega, by omega, rfl, rfl⟩
    · simp (disch := omega) only [go_sem, ↓IntWalk.iteOmega, IntWalk.toNatUp, Nat.reduceEqDiff, Nat.reduceAdd, Nat.reduceMul, Nat.reduceSub, Nat.reduceLT, Nat.reduceLeDiff, Int.reduceToNat, Int.reduceLT, Int.reduceLE, Int.reduceEq, Int.reduceAdd, Int.reduceSub, Int.reduceMul, Int.toNat_natCast, reduceCtorEq, decide_true, decide_false, IntWalk.i64_in, IntWalk.u64_in, IntWalk.u8_in, h13, h14, h15, h16, h18, o13, o14, hvW, r3, r4, hbn, Bool.not_false, Bool.not_true]
end Go.Proofs.YtpmjpogcaglphaaDoor.A

namespace Go.Proofs.YtpmjpogcaglphaaDoor
open Go Go.Proofs.YtpmjpogcaglphaaDoor.A
set_option maxRecDepth 100000 in
theorem miniFirst_lifted (os : Os) (started : os.Started) (H : Type) (enc : TypeId × Value → H) :
    ReturnsInHanded {} Tryd.checked os 12 .any (fun w args => (Rows.miniFirstSpec.pre enc Tryd.prog Tryd.f12 [] false w args ∧ laidMetH Tryd.prog laidL w) ∧ sizedMet enc Tryd.prog Tryd.f12 (OpenSpec.ofChange Rows.miniFirstSpec) false w args) (Rows.miniFirstSpec.post enc Tryd.prog Tryd.f12 false true false false) :=
  law_laid (C := Tryd.checked) (L := laidL) laidL_noh Tryd.own started (by kernel_rfl) Tryd.func12
    (ChangeSpec.witness_at (enc := enc) (C := Tryd.checked) (os := os) (X := fun w _ => laidMetH Tryd.prog laidL w) false (laidWorld os) #[.int .i64 0, .slice none 0 0, .int .i64 0, .int .i64 0, .slice none 0 0, .int .i64 0] 8 rfl (by kernel_rfl) (by kernel_rfl) (by kernel_rfl) (by kernel_rfl) (by kernel_rfl) (laidWorld_met os _))
    Tryd.laidOut (ks := [3, 22]) (by kernel_rfl) (by kernel_rfl) (tb := 4) (by kernel_rfl) (by kernel_rfl) rfl
    (fun ds hds => by
      match ds, hds with
      | [_, _, _, _, _, _], _ => exact ⟨rfl, rfl, rfl⟩)
    laid_gl (fun xs hxs => by
      rw [show Tryd.f12.params.toList = [3, 22, 3, 3, 22, 3] from rfl] at hxs
      match xs, hxs with
      | [x1, x2, x3, x4, x5, x6], ⟨h1, h2, h3, h4, h5, h6, _⟩ =>
        obtain ⟨n1, rfl, _⟩ := arg_int (k := .i64) (by kernel_rfl) h1
        obtain ⟨n2, rfl, _⟩ := arg_ints (e := 3) (by kernel_rfl) (by kernel_rfl) h2
        obtain ⟨n3, rfl, _⟩ := arg_int (k := .i64) (by kernel_rfl) h3
        obtain ⟨n4, rfl, _⟩ := arg_int (k := .i64) (by kernel_rfl) h4
        obtain ⟨n5, rfl, _⟩ := arg_ints (e := 3) (by kernel_rfl) (by kernel_rfl) h5
        obtain ⟨n6, rfl, _⟩ := arg_int (k := .i64) (by kernel_rfl) h6
        exact mfi_ok n1 n2 n3 n4 n5 n6)
theorem miniFirst_row_holds : Rows.MiniFirstSaid :=
  OpenClaim.holds_of_wide 12 Tryd.f12 rfl rfl rfl rfl rfl rfl rfl ⟨rfl, rfl, rfl, rfl, rfl⟩ rfl rfl rfl rfl rfl (by kernel_rfl) Tryd.func12 (by kernel_rfl)
    (of_decide_eq_true (by kernel_rfl)) (by unfold Func.isWrapper; first | (rw [if_pos (by decide +kernel)]; kernel_rfl) | (rw [if_neg (by decide +kernel)]; exact ⟨rfl, rfl⟩))
    (fun os started H enc _ => miniFirst_lifted os started H enc)
theorem miniFirst_card_holds : Rows.MiniFirstCardSaid :=
  Claim7.holds_tied_plain_at .later [] [.data, .data, .data] true (true, "102ca1f5da5c52998f5edfe949f841430b613cce0079492f5bc01c543bb3a885") false
    miniFirst_row_holds (fun _ h => by cases h) (by kernel_rfl) (fun _ h => by cases h) miniFirst_row_tie rfl ⟨rfl, rfl⟩ (by kernel_rfl) rfl
    (fun f fn hf hfn => by
      obtain rfl : f = 12 := (Option.some.inj ((show Tryd.prog.funcNamed "milestone/milestonelaw8.MiniFirst" = some 12 by kernel_rfl).symm.trans hf)).symm
      obtain rfl : fn = Tryd.f12 := (Option.some.inj (Tryd.func12.symm.trans hfn)).symm
      refine ⟨by kernel_rfl, fun j t ht => ?_⟩
      exact (wants_all (by kernel_rfl : (Tryd.f12.params.toList.all fun t => !Tryd.prog.wantsStandIn t) = true) ht))
    (by kernel_rfl)
end Go.Proofs.YtpmjpogcaglphaaDoor
