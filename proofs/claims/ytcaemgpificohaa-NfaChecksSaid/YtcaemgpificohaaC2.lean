/- close: the states to which free steps lead. -/
import Derived.Test.YtcaemgpificohaaC1
set_option linter.unusedVariables false
set_option linter.unusedSimpArgs false
set_option linter.unnecessarySimpa false
namespace Go.Proofs.Ytcaemgpificohaa.A
open Go
set_option maxRecDepth 20000
/-- Reached from states by free steps. -/
inductive Rch (N : Nat) (rows : List (List Int)) (l : List Int) : Nat → Prop
  | base (s : Nat) (h : (s : Int) ∈ l) (hs : s < N) : Rch N rows l s
  | step (s t : Nat) (h : Rch N rows l s) (hm : (t : Int) ∈ rows.getD s []) (ht : t < N) : Rch N rows l t
theorem Rch.lt {N rows l s} (h : Rch N rows l s) : s < N := by cases h <;> assumption
open Classical in
noncomputable def closeB (N : Nat) (rows : List (List Int)) (l : List Int) : List Bool := (List.range N).map fun s => decide (Rch N rows l s)
/-- Where it is true, rising. -/
def idxs (b : List Bool) : List Int := ((List.range b.length).map fun s => if b.getD s false then [(s : Int)] else []).flatten
theorem closeB_length (N rows l) : (closeB N rows l).length = N := by simp [closeB]
theorem closeB_get (N rows l s) : (closeB N rows l).getD s false = true ↔ Rch N rows l s := by
  classical
  simp only [closeB, List.getD, List.getElem?_map, List.getElem?_range']
  by_cases h : s < N
  · simp [h]
  · simp only [List.getElem?_eq_none (show (List.range N).length ≤ s by simp; omega)]
    simp
    exact fun hc => h hc.lt
theorem closeB_unique {N rows l} {b : List Bool} (hl : b.length = N) (h : ∀ s, b.getD s false = true ↔ Rch N rows l s) : b = closeB N rows l := by
  refine List.ext_getElem (by rw [hl, closeB_length]) fun s h1 h2 => ?_
  have e1 : b.getD s false = b[s] := by simp [List.getD, h1]
  have e2 : (closeB N rows l).getD s false = (closeB N rows l)[s] := by simp [List.getD, h2]
  rw [Bool.eq_iff_iff, ← e1, ← e2, h, closeB_get]
/-- What is still to be looked at. -/
def todo (rows : List (List Int)) (b : List Bool) : Nat := ((List.range b.length).map fun s => if b.getD s false then 0 else (rows.getD s []).length).sum
theorem sum_map_le {α : Type} (l : List α) (f g : α → Nat) (h : ∀ x ∈ l, f x ≤ g x) : (l.map f).sum ≤ (l.map g).sum := by
  induction l with
  | nil => simp
  | cons x l ih =>
    have := h x (List.mem_cons_self ..)
    have := ih fun y hy => h y (List.mem_cons_of_mem _ hy)
    simp; omega
theorem sum_map_one (n s : Nat) (hs : s < n) (f g : Nat → Nat) (h : ∀ x, x ≠ s → f x = g x) : ((List.range n).map f).sum + g s = ((List.range n).map g).sum + f s := by
  induction n with
  | zero => omega
  | succ n ih =>
    simp only [List.range_succ, List.map_append, List.sum_append, List.map_cons, List.map_nil, List.sum_cons, List.sum_nil]
    by_cases e : s = n
    · subst e
      have : (List.range s).map f = (List.range s).map g := List.map_congr_left fun x hx => h x (by have := List.mem_range.1 hx; omega)
      rw [this]; omega
    · have := ih (by omega)
      have := h n (fun hc => e hc.symm)
      omega
theorem todo_set {rows : List (List Int)} {b : List Bool} {s : Nat} (hs : s < b.length) (hb : b.getD s false = false) : todo rows (b.set s true) + (rows.getD s []).length = todo rows b := by
  unfold todo
  rw [List.length_set]
  have := sum_map_one b.length s hs (fun x => if (b.set s true).getD x false then 0 else (rows.getD x []).length) (fun x => if b.getD x false then 0 else (rows.getD x []).length) (fun x hx => by
    rw [getD_set _ _ _ _ _ hs, if_neg (show ¬ s = x from fun hc => hx hc.symm)])
  rw [hb, getD_set _ _ _ _ _ hs, if_pos rfl] at this
  rw [if_neg (by simp), if_pos rfl] at this
  omega
/-- Between the rounds: what is marked is reached; what is reached is marked or waits. -/
structure Mid (N : Nat) (rows : List (List Int)) (l : List Int) (b : List Bool) (st : List Int) : Prop where
  len : b.length = N
  sound : ∀ s, b.getD s false = true → Rch N rows l s
  wait : ∀ s : Nat, (s : Int) ∈ st → s < N → Rch N rows l s
  base : ∀ s : Nat, (s : Int) ∈ l → s < N → b.getD s false = true ∨ (s : Int) ∈ st
  next : ∀ s t : Nat, b.getD s false = true → (t : Int) ∈ rows.getD s [] → t < N → b.getD t false = true ∨ (t : Int) ∈ st
theorem Mid.start (N rows l) : Mid N rows l (List.replicate N false) l := by
  have h0 : ∀ s, (List.replicate N false).getD s false = false := fun s => by simp only [List.getD, List.getElem?_replicate]; split <;> rfl
  exact ⟨by simp, fun s h => (by rw [h0] at h; cases h), fun s h hs => .base s h hs, fun s h _ => .inr h, fun s t h => (by rw [h0] at h; cases h)⟩
theorem Mid.done {N rows l b} (h : Mid N rows l b []) : b = closeB N rows l := by
  refine closeB_unique h.len fun s => ⟨h.sound s, fun hr => ?_⟩
  induction hr with
  | base s hm hs => rcases h.base s hm hs with h | h; · exact h
                    · cases h
  | step s t hr hm ht ih => rcases h.next s t ih hm ht with h | h; · exact h
                            · cases h
theorem Mid.skip {N rows l b st} {x : Int} (h : Mid N rows l b (st ++ [x])) (hx : ∀ s : Nat, x = s → s < N → b.getD s false = true) : Mid N rows l b st := by
  refine ⟨h.len, h.sound, fun s hm hs => h.wait s (by simp [hm]) hs, fun s hm hs => ?_, fun s t hb hm ht => ?_⟩
  · rcases h.base s hm hs with h1 | h1
    · exact .inl h1
    · rcases List.mem_append.1 h1 with h1 | h1
      · exact .inr h1
      · exact .inl (hx s (List.mem_singleton.1 h1).symm hs)
  · rcases h.next s t hb hm ht with h1 | h1
    · exact .inl h1
    · rcases List.mem_append.1 h1 with h1 | h1
      · exact .inr h1
      · exact .inl (hx t (List.mem_singleton.1 h1).symm ht)
theorem Mid.mark {N rows l b st} {s : Nat} (h : Mid N rows l b (st ++ [(s : Int)])) (hs : s < N) : Mid N rows l (b.set s true) (st ++ rows.getD s []) := by
  have hsl : s < b.length := by rw [h.len]; exact hs
  have hr : Rch N rows l s := h.wait s (by simp) hs
  have hg : ∀ t, (b.set s true).getD t false = true ↔ t = s ∨ b.getD t false = true := fun t => by
    rw [getD_set _ _ _ _ _ hsl]
    by_cases e : s = t
    · simp [e]
    · rw [if_neg e]; simp [show ¬ t = s from fun hc => e hc.symm]
  refine ⟨by simpa using h.len, fun t ht => ?_, fun t hm ht => ?_, fun t hm ht => ?_, fun t u hb hm hu => ?_⟩
  · rcases (hg t).1 ht with rfl | ht
    · exact hr
    · exact h.sound t ht
  · rcases List.mem_append.1 hm with hm | hm
    · exact h.wait t (by simp [hm]) ht
    · exact .step s t hr hm ht
  · rw [hg]
    rcases h.base t hm ht with h1 | h1
    · exact .inl (.inr h1)
    · rcases List.mem_append.1 h1 with h1 | h1
      · exact .inr (List.mem_append_left _ h1)
      · exact .inl (.inl (by have := List.mem_singleton.1 h1; omega))
  · rw [hg]
    rcases (hg t).1 hb with rfl | hb
    · exact .inr (List.mem_append_right _ hm)
    · rcases h.next t u hb hm hu with h1 | h1
      · exact .inl (.inr h1)
      · rcases List.mem_append.1 h1 with h1 | h1
        · exact .inr (List.mem_append_left _ h1)
        · exact .inl (.inl (by have := List.mem_singleton.1 h1; omega))
theorem idxs_snoc {b : List Bool} {i : Nat} (h : i < b.length) : idxs (b.take (i + 1)) = idxs (b.take i) ++ (if b.getD i false then [(i : Int)] else []) := by
  have e : ∀ n, n ≤ b.length → idxs (b.take n) = ((List.range n).map fun s => if b.getD s false then [(s : Int)] else []).flatten := fun n hn => by
    unfold idxs
    rw [List.length_take, Nat.min_eq_left hn]
    congr 1
    refine List.map_congr_left fun s hs => ?_
    have : s < n := List.mem_range.1 hs
    have : (b.take n).getD s false = b.getD s false := by simp [List.getD, List.getElem?_take, this]
    rw [this]
  rw [e _ (by omega), e _ (by omega), List.range_succ, List.map_append, List.flatten_append]
  congr 1
  rw [List.map_singleton]
  exact List.append_nil _
theorem todo_start {rows : List (List Int)} {N : Nat} (h : rows.length = N) : todo rows (List.replicate N false) = (rows.map List.length).sum := by
  subst h
  unfold todo
  congr 1
  refine List.ext_getElem (by simp) fun s h1 h2 => ?_
  have hs : s < rows.length := by simpa using h2
  simp [List.getD, List.getElem?_replicate, hs]
theorem idxs_le (b : List Bool) : (idxs b).length ≤ b.length := by
  unfold idxs
  rw [List.length_flatten, List.map_map]
  have h := sum_map_le (List.range b.length) (List.length ∘ fun s => if b.getD s false then [(s : Int)] else []) (fun _ => 1) (fun s _ => by
    show (if b.getD s false then [(s : Int)] else []).length ≤ 1
    split
    · exact Nat.le_refl 1
    · exact Nat.zero_le 1)
  have h2 : ∀ n : Nat, ((List.range n).map fun _ => 1).sum = n := fun n => by
    induction n with
    | zero => rfl
    | succ n ih => rw [List.range_succ, List.map_append, List.sum_append, ih]; rfl
  rw [h2] at h
  exact h
theorem row_le (rows : List (List Int)) (s : Nat) : (rows.getD s []).length ≤ (rows.map List.length).sum := by
  induction rows generalizing s with
  | nil => simp [List.getD]
  | cons r rows ih =>
    cases s with
    | zero => simp [List.getD]
    | succ s => have := ih s; simp only [List.getD_cons_succ, List.map_cons, List.sum_cons]; omega
theorem slRows_get {rows : List (List Int)} {s : Nat} (h : s < rows.length) : take1 false 1 ((rows.map slI).drop s) = some (slI (rows.getD s [])) := by
  rw [cs_get (by simpa using h)]; simp [List.getD, h]
theorem close_wp (md X cr k) (N : Nat) (hN : N ≤ 100000) (rows : List (List Int)) (hr : rows.length = N) (l : List Int) (hsz : l.length + (rows.map List.length).sum ≤ 1000000) (hk : l.length + (rows.map List.length).sum + N < k) :
    WP (EX md X) cr k (fun _ => none) (Try.f39.body.getD .skip) (begin_ [closerV N rows, slI l]) (fun _ => none) 0 (fun u a o nx => u = .ret ∧ A.view o vDepth (a 4) = slI (idxs (closeB N rows l))) := by
  simp only [Try.f39, Option.getD_some]
  have hz : (cI (List.replicate l.length 0)).drop l.length = [] := by simp [cI]
  simp (disch := omega) only [go_sem, ↓IntWalk.iteOmega, IntWalk.toNatUp, Nat.reduceEqDiff, Nat.reduceAdd, Nat.reduceMul, Nat.reduceSub, Nat.reduceLT, Nat.reduceLeDiff, Int.reduceToNat, Int.reduceLT, Int.reduceLE, Int.reduceEq, Int.reduceAdd, Int.reduceSub, Int.reduceMul, Int.toNat_natCast, reduceCtorEq, decide_true, decide_false, IntWalk.i64_in, IntWalk.u64_in, IntWalk.u8_in, begin_, rep_bool, rep_int, hz]
  refine WP_loop (fun m a o nx => ∃ b full n g, Mid N rows l b (full.take n) ∧ n ≤ full.length ∧ m = n + todo rows b ∧ 4 ≤ nx ∧ m ≤ l.length + (rows.map List.length).sum ∧ a 2 = .ptr (0, 2) (0, 2) 0 ∧ a 5 = .ref (1, 13) (1, 13) 0 N ∧ a 6 = .ref (2, 16) g 0 n ∧
      o (0, 2) = some (.row ⟨79, 1, (0, 2), false, true, [.int .i64 N, .sl N (rows.map slI)]⟩) ∧ o (1, 13) = some (.row ⟨4, 1, (1, 13), false, true, cB b⟩) ∧ o (2, 16) = some (.row ⟨3, 1, g, false, true, cI full⟩)) (l.length + (rows.map List.length).sum) ?_ ?_ ?_
  · omega
  · refine ⟨List.replicate N false, l, l.length, (2, 16), by rw [List.take_length]; exact Mid.start N rows l, Nat.le_refl _, by rw [todo_start hr], by omega, Nat.le_refl _, ?_⟩
    simp only [go_sem, ↓IntWalk.iteOmega, IntWalk.toNatUp, Nat.reduceEqDiff, Nat.reduceAdd, Nat.reduceMul, Nat.reduceSub, Nat.reduceLT, Nat.reduceLeDiff, Int.reduceToNat, Int.reduceLT, Int.reduceLE, Int.reduceEq, Int.reduceAdd, Int.reduceSub, Int.reduceMul, Int.toNat_natCast, reduceCtorEq, decide_true, decide_false, IntWalk.i64_in, IntWalk.u64_in, IntWalk.u8_in, begin_]
  · rintro m a o nx ⟨b, full, n, g, hM, hn, rfl, hnx, hm, h2, h5, h6, ho2, ho13, ho16⟩
    have hbl := hM.len
    by_cases h0 : n = 0
    · subst h0
      rw [List.take_zero] at hM
      have hdone := hM.done
      simp (disch := omega) only [go_sem, ↓IntWalk.iteOmega, IntWalk.toNatUp, Nat.reduceEqDiff, Nat.reduceAdd, Nat.reduceMul, Nat.reduceSub, Nat.reduceLT, Nat.reduceLeDiff, Int.reduceToNat, Int.reduceLT, Int.reduceLE, Int.reduceEq, Int.reduceAdd, Int.reduceSub, Int.reduceMul, Int.toNat_natCast, reduceCtorEq, decide_true, decide_false, IntWalk.i64_in, IntWalk.u64_in, IntWalk.u8_in, h2, h5, h6, ho2, ho13, ho16]
      refine WP_loop (fun m a o nx' => ∃ i g, i ≤ N ∧ m = N - i ∧ nx + 2 ≤ nx' ∧ a 8 = .ref (nx + 1, 61) g 0 (idxs (b.take i)).length ∧ a 62 = .ref (1, 13) (1, 13) 0 N ∧ a 63 = .int .i64 N ∧ a 64 = .int .i64 i ∧
        o (1, 13) = some (.row ⟨4, 1, (1, 13), false, true, cB b⟩) ∧ o (nx + 1, 61) = some (.row ⟨3, 1, g, false, true, cI (idxs (b.take i))⟩)) N ?_ ?_ ?_
      · omega
      · refine ⟨0, (nx + 1, 61), by omega, by omega, by omega, ?_⟩
        have h0 : idxs (b.take 0) = [] := rfl
        simp only [go_sem, ↓IntWalk.iteOmega, IntWalk.toNatUp, Nat.reduceEqDiff, Nat.reduceAdd, Nat.reduceMul, Nat.reduceSub, Nat.reduceLT, Nat.reduceLeDiff, Int.reduceToNat, Int.reduceLT, Int.reduceLE, Int.reduceEq, Int.reduceAdd, Int.reduceSub, Int.reduceMul, Int.toNat_natCast, reduceCtorEq, decide_true, decide_false, IntWalk.i64_in, IntWalk.u64_in, IntWalk.u8_in, ho13, h0]
        exact ⟨rfl, rfl⟩
      · rintro m a o nx' ⟨i, g, hi, rfl, hnx', h8, h62, h63, h64, ho13, ho61⟩
        by_cases hlt : i < N
        · have hib : i < b.length := by omega
          have hgb := cB_get (s := 1) hib
          have hsn := idxs_snoc hib
          have hle := idxs_le (b.take i)
          rw [List.length_take] at hle
          cases hbi : b.getD i false with
          | true =>
            rw [hbi] at hgb hsn
            rw [if_pos rfl] at hsn
            simp (disch := omega) only [go_sem, ↓IntWalk.iteOmega, IntWalk.toNatUp, Nat.reduceEqDiff, Nat.reduceAdd, Nat.reduceMul, Nat.reduceSub, Nat.reduceLT, Nat.reduceLeDiff, Int.reduceToNat, Int.reduceLT, Int.reduceLE, Int.reduceEq, Int.reduceAdd, Int.reduceSub, Int.reduceMul, Int.toNat_natCast, reduceCtorEq, decide_true, decide_false, IntWalk.i64_in, IntWalk.u64_in, IntWalk.u8_in, h8, h62, h63, h64, ho13, ho61, hgb, IntWalk.i64_in]
            exact ⟨_, by omega, i + 1, _, by omega, rfl, by omega, by rw [hsn, List.length_append]; rfl, by simp, by rw [hsn, cI_app]; rfl⟩
          | false =>
            rw [hbi] at hgb hsn
            rw [if_neg (by simp), List.append_nil] at hsn
            simp (disch := omega) only [go_sem, ↓IntWalk.iteOmega, IntWalk.toNatUp, Nat.reduceEqDiff, Nat.reduceAdd, Nat.reduceMul, Nat.reduceSub, Nat.reduceLT, Nat.reduceLeDiff, Int.reduceToNat, Int.reduceLT, Int.reduceLE, Int.reduceEq, Int.reduceAdd, Int.reduceSub, Int.reduceMul, Int.toNat_natCast, reduceCtorEq, decide_true, decide_false, IntWalk.i64_in, IntWalk.u64_in, IntWalk.u8_in, h8, h62, h63, h64, ho13, ho61, hgb, IntWalk.i64_in]
            exact ⟨_, by omega, i + 1, g, by omega, rfl, by omega, by rw [hsn], by simp, by rw [hsn]⟩
        · have e : i = N := by omega
          subst e
          rw [List.take_of_length_le (by omega)] at h8 ho61
          have hlb := idxs_le b
          rw [← hdone]
          by_cases hz : (idxs b).length = 0
          · simp (disch := omega) only [go_sem, ↓IntWalk.iteOmega, IntWalk.toNatUp, Nat.reduceEqDiff, Nat.reduceAdd, Nat.reduceMul, Nat.reduceSub, Nat.reduceLT, Nat.reduceLeDiff, Int.reduceToNat, Int.reduceLT, Int.reduceLE, Int.reduceEq, Int.reduceAdd, Int.reduceSub, Int.reduceMul, Int.toNat_natCast, reduceCtorEq, decide_true, decide_false, IntWalk.i64_in, IntWalk.u64_in, IntWalk.u8_in, h8, h62, h63, h64, ho13, ho61, hz]
            rw [List.length_eq_zero_iff.1 hz]; rfl
          · simp (disch := omega) only [go_sem, ↓IntWalk.iteOmega, IntWalk.toNatUp, Nat.reduceEqDiff, Nat.reduceAdd, Nat.reduceMul, Nat.reduceSub, Nat.reduceLT, Nat.reduceLeDiff, Int.reduceToNat, Int.reduceLT, Int.reduceLE, Int.reduceEq, Int.reduceAdd, Int.reduceSub, Int.reduceMul, Int.toNat_natCast, reduceCtorEq, decide_true, decide_false, IntWalk.i64_in, IntWalk.u64_in, IntWalk.u8_in, h8, h62, h63, h64, ho13, ho61, hz]
    · have hg := cI_get (s := 1) (show n - 1 < full.length by omega)
      have htk : full.take n = full.take (n - 1) ++ [full.getD (n - 1) 0] := by
        have := take_succ_getD (show n - 1 < full.length by omega) 0
        rwa [show n - 1 + 1 = n by omega] at this
      rw [htk] at hM
      generalize full.getD (n - 1) 0 = x at hg htk hM
      have htk1 : (full.take (n - 1)).length = n - 1 := by rw [List.length_take]; omega
      by_cases hx0 : 0 ≤ x
      · obtain ⟨s, rfl⟩ := Int.eq_ofNat_of_zero_le hx0
        by_cases hs : s < N
        · have hgb := cB_get (s := 1) (show s < b.length by omega)
          have hrow := slRows_get (rows := rows) (show s < rows.length by omega)
          have hcs := cB_set b s true (by omega)
          cases hbs : b.getD s false with
          | true =>
            rw [hbs] at hgb
            simp (disch := omega) only [go_sem, ↓IntWalk.iteOmega, IntWalk.toNatUp, Nat.reduceEqDiff, Nat.reduceAdd, Nat.reduceMul, Nat.reduceSub, Nat.reduceLT, Nat.reduceLeDiff, Int.reduceToNat, Int.reduceLT, Int.reduceLE, Int.reduceEq, Int.reduceAdd, Int.reduceSub, Int.reduceMul, Int.toNat_natCast, reduceCtorEq, decide_true, decide_false, IntWalk.i64_in, IntWalk.u64_in, IntWalk.u8_in, h2, h5, h6, ho2, ho13, ho16, hg, hgb, IntWalk.i64_in]
            refine ⟨_, ?_, b, full, n - 1, g, hM.skip (fun t ht _ => ?_), by omega, rfl, by omega, rfl, rfl, rfl⟩
            · omega
            · have : s = t := by omega
              rw [← this, hbs]
          | false =>
            rw [hbs] at hgb
            have htd := todo_set (rows := rows) (show s < b.length by omega) hbs
            have hrl : (rows.getD s []).length ≤ (rows.map List.length).sum := row_le rows s
            simp (disch := omega) only [go_sem, ↓IntWalk.iteOmega, IntWalk.toNatUp, Nat.reduceEqDiff, Nat.reduceAdd, Nat.reduceMul, Nat.reduceSub, Nat.reduceLT, Nat.reduceLeDiff, Int.reduceToNat, Int.reduceLT, Int.reduceLE, Int.reduceEq, Int.reduceAdd, Int.reduceSub, Int.reduceMul, Int.toNat_natCast, reduceCtorEq, decide_true, decide_false, IntWalk.i64_in, IntWalk.u64_in, IntWalk.u8_in, h2, h5, h6, ho2, ho13, ho16, hg, hgb, hrow, hcs, cI_take, IntWalk.i64_in]
            refine ⟨_, ?_, b.set s true, full.take (n - 1) ++ rows.getD s [], n - 1 + (rows.getD s []).length, _, ?_, ?_, rfl, ?_, rfl, rfl, by rw [cI_app]⟩
            · omega
            · rw [List.take_of_length_le (by rw [List.length_append]; omega)]
              exact hM.mark hs
            · rw [List.length_append]; omega
            · omega
        · simp (disch := omega) only [go_sem, ↓IntWalk.iteOmega, IntWalk.toNatUp, Nat.reduceEqDiff, Nat.reduceAdd, Nat.reduceMul, Nat.reduceSub, Nat.reduceLT, Nat.reduceLeDiff, Int.reduceToNat, Int.reduceLT, Int.reduceLE, Int.reduceEq, Int.reduceAdd, Int.reduceSub, Int.reduceMul, Int.toNat_natCast, reduceCtorEq, decide_true, decide_false, IntWalk.i64_in, IntWalk.u64_in, IntWalk.u8_in, h2, h5, h6, ho2, ho13, ho16, hg, IntWalk.i64_in]
          exact ⟨_, by omega, b, full, n - 1, g, hM.skip (fun t ht htN => by omega), by omega, rfl, by omega, rfl, rfl, rfl⟩
      · simp (disch := omega) only [go_sem, ↓IntWalk.iteOmega, IntWalk.toNatUp, Nat.reduceEqDiff, Nat.reduceAdd, Nat.reduceMul, Nat.reduceSub, Nat.reduceLT, Nat.reduceLeDiff, Int.reduceToNat, Int.reduceLT, Int.reduceLE, Int.reduceEq, Int.reduceAdd, Int.reduceSub, Int.reduceMul, Int.toNat_natCast, reduceCtorEq, decide_true, decide_false, IntWalk.i64_in, IntWalk.u64_in, IntWalk.u8_in, h2, h5, h6, ho2, ho13, ho16, hg, IntWalk.i64_in]
        exact ⟨_, by omega, b, full, n - 1, g, hM.skip (fun t ht _ => by omega), by omega, rfl, by omega, rfl, rfl, rfl⟩
theorem look39 (X) : lookedAt (EX md0 X) (fun _ => none) 2 Try.f39 = true := by kernel_rfl
theorem close_ok (N : Nat) (hN : N ≤ 100000) (rows : List (List Int)) (hr : rows.length = N) (l : List Int) (hsz : l.length + (rows.map List.length).sum ≤ 1000000) : Ok Try.prog 39 [closerV N rows, slI l] (slI (idxs (closeB N rows l))) := by
  refine ok_of_WP (E := EX md0 (fun _ _ => none)) (cr := noR) (tab_nil _) (noR_ok _) mixed (k := l.length + (rows.map List.length).sum + N + 1) Try.func39 (look39 _) rfl (WP_mono (close_wp _ _ _ _ N hN rows hr l hsz (by omega)) ?_)
  rintro u a o nx ⟨rfl, h⟩
  exact ⟨.inr rfl, h⟩
end Go.Proofs.Ytcaemgpificohaa.A
