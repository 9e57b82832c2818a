/- within: the remainder. -/
import Derived.Test.YtcaemgpificohaaRows
import Derived.Test.YtcaemgpificohaaMLOwn1
import Derived.Test.YtcaemgpificohaaMLOwn2
import Derived.Test.YtcaemgpificohaaMLOwn3
import Derived.Test.YtcaemgpificohaaMLOwn4
import Derived.Test.YtcaemgpificohaaMLOwn5
set_option linter.unusedVariables false
set_option linter.unusedSimpArgs false
set_option linter.unnecessarySimpa false
namespace Go.Proofs.Ytcaemgpificohaa.A
open Go
set_option maxRecDepth 20000
def RW (args : List AV) (r : AV) : Prop := ∃ a n : Int, 0 < n ∧ n ≤ 1000000 ∧ args = [.int .i64 a, .int .i64 n] ∧ r = .int .i64 (a % n)
theorem RW_fn : Fun1 RW := by
  rintro args r r' ⟨a, n, _, _, rfl, rfl⟩ ⟨a', n', _, _, h, rfl⟩
  simp only [List.cons.injEq, AV.int.injEq, true_and, and_true] at h
  rw [h.1, h.2]
theorem rw_eq {a n : Int} (h1 : 0 < n) (h2 : n ≤ 1000000) : tRel RW [.int .i64 a, .int .i64 n] = some (.int .i64 (a % n)) := tRel_eq RW_fn ⟨a, n, h1, h2, rfl, rfl⟩
theorem mod_of (a n : Int) (h : 0 < n) : a % n = if a.tmod n < 0 then a.tmod n + n else a.tmod n := by
  have hn : ¬ n = 0 := by omega
  have e1 := Int.emod_lt_of_pos a h
  have e2 := Int.emod_nonneg a hn
  rw [Int.tmod_eq_emod]
  have : (n.natAbs : Int) = n := by omega
  split
  · split <;> omega
  · rename_i hc
    simp only [not_or] at hc
    have h0 : a % n ≠ 0 := fun e => hc.2 (Int.dvd_of_emod_eq_zero e)
    split <;> omega
theorem tmod_in (a n : Int) (h : 0 < n) : -n < a.tmod n ∧ a.tmod n < n := by
  have hn : ¬ n = 0 := by omega
  rw [Int.tmod_eq_emod]
  have := Int.emod_lt_of_pos a h
  have := Int.emod_nonneg a hn
  constructor <;> split <;> omega
theorem lookW0 (X) : lookedAt (EX md0 X) (fun _ => none) 2 Try.f25 = true := by kernel_rfl
theorem within0_ok (args r) (h : RW args r) : Ok Try.prog 25 args r := by
  obtain ⟨a, n, h1, h2, rfl, rfl⟩ := h
  refine ok_of_WP (E := EX md0 (fun _ _ => none)) (cr := noR) (tab_nil _) (noR_ok _) mixed (k := 0) Try.func25 (lookW0 _) rfl ?_
  rw [mod_of a n h1]
  obtain ⟨h3, h4⟩ := tmod_in a n h1
  simp only [Try.f25, Option.getD_some]
  by_cases hc : a.tmod n < 0
  · rw [if_pos hc]
    simp (disch := omega) only [go_sem, ↓IntWalk.iteOmega, IntWalk.toNatUp, Nat.reduceEqDiff, Nat.reduceAdd, Nat.reduceMul, Nat.reduceSub, Nat.reduceLT, Nat.reduceLeDiff, Int.reduceToNat, Int.reduceLT, Int.reduceLE, Int.reduceEq, Int.reduceAdd, Int.reduceSub, Int.reduceMul, Int.toNat_natCast, reduceCtorEq, decide_true, decide_false, IntWalk.i64_in, IntWalk.u64_in, IntWalk.u8_in, hc]
  · rw [if_neg hc]
    simp (disch := omega) only [go_sem, ↓IntWalk.iteOmega, IntWalk.toNatUp, Nat.reduceEqDiff, Nat.reduceAdd, Nat.reduceMul, Nat.reduceSub, Nat.reduceLT, Nat.reduceLeDiff, Int.reduceToNat, Int.reduceLT, Int.reduceLE, Int.reduceEq, Int.reduceAdd, Int.reduceSub, Int.reduceMul, Int.toNat_natCast, reduceCtorEq, decide_true, decide_false, IntWalk.i64_in, IntWalk.u64_in, IntWalk.u8_in, hc]
theorem lookW1 (X) : lookedAt (EX md0 X) (fun _ => none) 2 Try.f37 = true := by kernel_rfl
theorem within1_ok (args r) (h : RW args r) : Ok Try.prog 37 args r := by
  obtain ⟨a, n, h1, h2, rfl, rfl⟩ := h
  refine ok_of_WP (E := EX md0 (fun _ _ => none)) (cr := noR) (tab_nil _) (noR_ok _) mixed (k := 0) Try.func37 (lookW1 _) rfl ?_
  rw [mod_of a n h1]
  obtain ⟨h3, h4⟩ := tmod_in a n h1
  simp only [Try.f37, Option.getD_some]
  by_cases hc : a.tmod n < 0
  · rw [if_pos hc]
    simp (disch := omega) only [go_sem, ↓IntWalk.iteOmega, IntWalk.toNatUp, Nat.reduceEqDiff, Nat.reduceAdd, Nat.reduceMul, Nat.reduceSub, Nat.reduceLT, Nat.reduceLeDiff, Int.reduceToNat, Int.reduceLT, Int.reduceLE, Int.reduceEq, Int.reduceAdd, Int.reduceSub, Int.reduceMul, Int.toNat_natCast, reduceCtorEq, decide_true, decide_false, IntWalk.i64_in, IntWalk.u64_in, IntWalk.u8_in, hc]
  · rw [if_neg hc]
    simp (disch := omega) only [go_sem, ↓IntWalk.iteOmega, IntWalk.toNatUp, Nat.reduceEqDiff, Nat.reduceAdd, Nat.reduceMul, Nat.reduceSub, Nat.reduceLT, Nat.reduceLeDiff, Int.reduceToNat, Int.reduceLT, Int.reduceLE, Int.reduceEq, Int.reduceAdd, Int.reduceSub, Int.reduceMul, Int.toNat_natCast, reduceCtorEq, decide_true, decide_false, IntWalk.i64_in, IntWalk.u64_in, IntWalk.u8_in, hc]
theorem lookW2 (X) : lookedAt (EX md0 X) (fun _ => none) 2 Try.f53 = true := by kernel_rfl
theorem within2_ok (args r) (h : RW args r) : Ok Try.prog 53 args r := by
  obtain ⟨a, n, h1, h2, rfl, rfl⟩ := h
  refine ok_of_WP (E := EX md0 (fun _ _ => none)) (cr := noR) (tab_nil _) (noR_ok _) mixed (k := 0) Try.func53 (lookW2 _) rfl ?_
  rw [mod_of a n h1]
  obtain ⟨h3, h4⟩ := tmod_in a n h1
  simp only [Try.f53, Option.getD_some]
  by_cases hc : a.tmod n < 0
  · rw [if_pos hc]
    simp (disch := omega) only [go_sem, ↓IntWalk.iteOmega, IntWalk.toNatUp, Nat.reduceEqDiff, Nat.reduceAdd, Nat.reduceMul, Nat.reduceSub, Nat.reduceLT, Nat.reduceLeDiff, Int.reduceToNat, Int.reduceLT, Int.reduceLE, Int.reduceEq, Int.reduceAdd, Int.reduceSub, Int.reduceMul, Int.toNat_natCast, reduceCtorEq, decide_true, decide_false, IntWalk.i64_in, IntWalk.u64_in, IntWalk.u8_in, hc]
  · rw [if_neg hc]
    simp (disch := omega) only [go_sem, ↓IntWalk.iteOmega, IntWalk.toNatUp, Nat.reduceEqDiff, Nat.reduceAdd, Nat.reduceMul, Nat.reduceSub, Nat.reduceLT, Nat.reduceLeDiff, Int.reduceToNat, Int.reduceLT, Int.reduceLE, Int.reduceEq, Int.reduceAdd, Int.reduceSub, Int.reduceMul, Int.toNat_natCast, reduceCtorEq, decide_true, decide_false, IntWalk.i64_in, IntWalk.u64_in, IntWalk.u8_in, hc]
end Go.Proofs.Ytcaemgpificohaa.A
/- What all laws' rows share: arguments that read are data. -/
namespace Go.Proofs.Ytcaemgpificohaa.A
open Go
theorem shaped_int {P : Program} {d : Nat} {t : TypeId} {xs : List AV} (hu : P.underlying t = some (.int .i64)) (h : Shaped P d t xs) : ∃ n, xs = [.int .i64 n] := by
  cases d with
  | zero => exact h.elim
  | succ d =>
    unfold Shaped at h
    rw [hu] at h
    obtain ⟨n, e, _⟩ := h
    exact ⟨n, e⟩
theorem ints_of {P : Program} {d : Nat} {t : TypeId} (hu : P.underlying t = some (.int .i64)) : ∀ parts : List (List AV), (∀ p ∈ parts, Shaped P d t p) → ∃ ns : List Int, parts.length = ns.length ∧ parts.flatten = cI ns
  | [], _ => ⟨[], rfl, rfl⟩
  | p :: parts, h => by
    obtain ⟨n, rfl⟩ := shaped_int hu (h p (List.mem_cons_self ..))
    obtain ⟨ns, h1, h2⟩ := ints_of hu parts (fun q hq => h q (List.mem_cons_of_mem _ hq))
    exact ⟨n :: ns, by simp [h1], by simp [cI, h2]⟩
theorem arg_ints {P : Program} {t e : TypeId} {x : AV} (hu : P.underlying t = some (.slice e)) (he : P.underlying e = some (.int .i64)) (h : ArgOf P t x) : ∃ ns : List Int, x = slI ns ∧ ns.length ≤ maxLen := by
  unfold ArgOf at h
  rw [hu] at h
  obtain ⟨d, h⟩ := h
  cases d with
  | zero => exact h.elim
  | succ d =>
    unfold Shaped at h
    rw [hu] at h
    obtain ⟨parts, e1, hle, h2⟩ := h
    injection e1 with e1 _
    obtain ⟨ns, h3, h4⟩ := ints_of he parts h2
    exact ⟨ns, by rw [e1, h3, h4], by omega⟩
theorem arg_bool {P : Program} {t : TypeId} {x : AV} (hu : P.underlying t = some .bool) (h : ArgOf P t x) : ∃ b, x = .bool b := by
  unfold ArgOf at h
  rw [hu] at h
  obtain ⟨d, h⟩ := h
  cases d with
  | zero => exact h.elim
  | succ d =>
    unfold Shaped at h
    rw [hu] at h
    obtain ⟨n, e⟩ := h
    injection e with e _
    exact ⟨n, e⟩
end Go.Proofs.Ytcaemgpificohaa.A
namespace Go.Proofs.Ytcaemgpificohaa
open Go Go.Proofs.Ytcaemgpificohaa.A
theorem Try.own : ownKnob Try.prog.godebug = none := by kernel_rfl
theorem Try.laidOut : laidOutB Try.prog = true := by kernel_rfl
end Go.Proofs.Ytcaemgpificohaa
/- close: the states to which free steps lead. -/
namespace Go.Proofs.Ytcaemgpificohaa.A
open Go
set_option maxRecDepth 20000
/-- Reached from states by free steps. -/
inductive Rch (N : Nat) (rows : List (List Int)) (l : List Int) : Nat → Prop
  | base (s : Nat) (h : (s : Int) ∈ l) (hs : s < N) : Rch N rows l s
  | step (s t : Nat) (h : Rch N rows l s) (hm : (t : Int) ∈ rows.getD s []) (ht : t < N) : Rch N rows l t
theorem Rch.lt {N rows l s} (h : Rch N rows l s) : s < N := by cases h <;> assumption
open Classical in
noncomputable def closeB (N : Nat) (rows : List (List Int)) (l : List Int) : List Bool := (List.range N).map fun s => decide (Rch N rows l s)
/-- Where it is true, rising. -/
def idxs (b : List Bool) : List Int := ((List.range b.length).map fun s => if b.getD s false then [(s : Int)] else []).flatten
theorem closeB_length (N rows l) : (closeB N rows l).length = N := by simp [closeB]
theorem closeB_get (N rows l s) : (closeB N rows l).getD s false = true ↔ Rch N rows l s := by
  classical
  simp only [closeB, List.getD, List.getElem?_map, List.getElem?_range']
  by_cases h : s < N
  · simp [h]
  · simp only [List.getElem?_eq_none (show (List.range N).length ≤ s by simp; omega)]
    simp
    exact fun hc => h hc.lt
theorem closeB_unique {N rows l} {b : List Bool} (hl : b.length = N) (h : ∀ s, b.getD s false = true ↔ Rch N rows l s) : b = closeB N rows l := by
  refine List.ext_getElem (by rw [hl, closeB_length]) fun s h1 h2 => ?_
  have e1 : b.getD s false = b[s] := by simp [List.getD, h1]
  have e2 : (closeB N rows l).getD s false = (closeB N rows l)[s] := by simp [List.getD, h2]
  rw [Bool.eq_iff_iff, ← e1, ← e2, h, closeB_get]
/-- What is still to be looked at. -/
def todo (rows : List (List Int)) (b : List Bool) : Nat := ((List.range b.length).map fun s => if b.getD s false then 0 else (rows.getD s []).length).sum
theorem sum_map_le {α : Type} (l : List α) (f g : α → Nat) (h : ∀ x ∈ l, f x ≤ g x) : (l.map f).sum ≤ (l.map g).sum := by
  induction l with
  | nil => simp
  | cons x l ih =>
    have := h x (List.mem_cons_self ..)
    have := ih fun y hy => h y (List.mem_cons_of_mem _ hy)
    simp; omega
theorem sum_map_one (n s : Nat) (hs : s < n) (f g : Nat → Nat) (h : ∀ x, x ≠ s → f x = g x) : ((List.range n).map f).sum + g s = ((List.range n).map g).sum + f s := by
  induction n with
  | zero => omega
  | succ n ih =>
    simp only [List.range_succ, List.map_append, List.sum_append, List.map_cons, List.map_nil, List.sum_cons, List.sum_nil]
    by_cases e : s = n
    · subst e
      have : (List.range s).map f = (List.range s).map g := List.map_congr_left fun x hx => h x (by have := List.mem_range.1 hx; omega)
      rw [this]; omega
    · have := ih (by omega)
      have := h n (fun hc => e hc.symm)
      omega
theorem todo_set {rows : List (List Int)} {b : List Bool} {s : Nat} (hs : s < b.length) (hb : b.getD s false = false) : todo rows (b.set s true) + (rows.getD s []).length = todo rows b := by
  unfold todo
  rw [List.length_set]
  have := sum_map_one b.length s hs (fun x => if (b.set s true).getD x false then 0 else (rows.getD x []).length) (fun x => if b.getD x false then 0 else (rows.getD x []).length) (fun x hx => by
    rw [getD_set _ _ _ _ _ hs, if_neg (show ¬ s = x from fun hc => hx hc.symm)])
  rw [hb, getD_set _ _ _ _ _ hs, if_pos rfl] at this
  rw [if_neg (by simp), if_pos rfl] at this
  omega
/-- Between the rounds: what is marked is reached; what is reached is marked or waits. -/
structure Mid (N : Nat) (rows : List (List Int)) (l : List Int) (b : List Bool) (st : List Int) : Prop where
  len : b.length = N
  sound : ∀ s, b.getD s false = true → Rch N rows l s
  wait : ∀ s : Nat, (s : Int) ∈ st → s < N → Rch N rows l s
  base : ∀ s : Nat, (s : Int) ∈ l → s < N → b.getD s false = true ∨ (s : Int) ∈ st
  next : ∀ s t : Nat, b.getD s false = true → (t : Int) ∈ rows.getD s [] → t < N → b.getD t false = true ∨ (t : Int) ∈ st
theorem Mid.start (N rows l) : Mid N rows l (List.replicate N false) l := by
  have h0 : ∀ s, (List.replicate N false).getD s false = false := fun s => by simp only [List.getD, List.getElem?_replicate]; split <;> rfl
  exact ⟨by simp, fun s h => (by rw [h0] at h; cases h), fun s h hs => .base s h hs, fun s h _ => .inr h, fun s t h => (by rw [h0] at h; cases h)⟩
theorem Mid.done {N rows l b} (h : Mid N rows l b []) : b = closeB N rows l := by
  refine closeB_unique h.len fun s => ⟨h.sound s, fun hr => ?_⟩
  induction hr with
  | base s hm hs => rcases h.base s hm hs with h | h; · exact h
                    · cases h
  | step s t hr hm ht ih => rcases h.next s t ih hm ht with h | h; · exact h
                            · cases h
theorem Mid.skip {N rows l b st} {x : Int} (h : Mid N rows l b (st ++ [x])) (hx : ∀ s : Nat, x = s → s < N → b.getD s false = true) : Mid N rows l b st := by
  refine ⟨h.len, h.sound, fun s hm hs => h.wait s (by simp [hm]) hs, fun s hm hs => ?_, fun s t hb hm ht => ?_⟩
  · rcases h.base s hm hs with h1 | h1
    · exact .inl h1
    · rcases List.mem_append.1 h1 with h1 | h1
      · exact .inr h1
      · exact .inl (hx s (List.mem_singleton.1 h1).symm hs)
  · rcases h.next s t hb hm ht with h1 | h1
    · exact .inl h1
    · rcases List.mem_append.1 h1 with h1 | h1
      · exact .inr h1
      · exact .inl (hx t (List.mem_singleton.1 h1).symm ht)
theorem Mid.mark {N rows l b st} {s : Nat} (h : Mid N rows l b (st ++ [(s : Int)])) (hs : s < N) : Mid N rows l (b.set s true) (st ++ rows.getD s []) := by
  have hsl : s < b.length := by rw [h.len]; exact hs
  have hr : Rch N rows l s := h.wait s (by simp) hs
  have hg : ∀ t, (b.set s true).getD t false = true ↔ t = s ∨ b.getD t false = true := fun t => by
    rw [getD_set _ _ _ _ _ hsl]
    by_cases e : s = t
    · simp [e]
    · rw [if_neg e]; simp [show ¬ t = s from fun hc => e hc.symm]
  refine ⟨by simpa using h.len, fun t ht => ?_, fun t hm ht => ?_, fun t hm ht => ?_, fun t u hb hm hu => ?_⟩
  · rcases (hg t).1 ht with rfl | ht
    · exact hr
    · exact h.sound t ht
  · rcases List.mem_append.1 hm with hm | hm
    · exact h.wait t (by simp [hm]) ht
    · exact .step s t hr hm ht
  · rw [hg]
    rcases h.base t hm ht with h1 | h1
    · exact .inl (.inr h1)
    · rcases List.mem_append.1 h1 with h1 | h1
      · exact .inr (List.mem_append_left _ h1)
      · exact .inl (.inl (by have := List.mem_singleton.1 h1; omega))
  · rw [hg]
    rcases (hg t).1 hb with rfl | hb
    · exact .inr (List.mem_append_right _ hm)
    · rcases h.next t u hb hm hu with h1 | h1
      · exact .inl (.inr h1)
      · rcases List.mem_append.1 h1 with h1 | h1
        · exact .inr (List.mem_append_left _ h1)
        · exact .inl (.inl (by have := List.mem_singleton.1 h1; omega))
theorem idxs_snoc {b : List Bool} {i : Nat} (h : i < b.length) : idxs (b.take (i + 1)) = idxs (b.take i) ++ (if b.getD i false then [(i : Int)] else []) := by
  have e : ∀ n, n ≤ b.length → idxs (b.take n) = ((List.range n).map fun s => if b.getD s false then [(s : Int)] else []).flatten := fun n hn => by
    unfold idxs
    rw [List.length_take, Nat.min_eq_left hn]
    congr 1
    refine List.map_congr_left fun s hs => ?_
    have : s < n := List.mem_range.1 hs
    have : (b.take n).getD s false = b.getD s false := by simp [List.getD, List.getElem?_take, this]
    rw [this]
  rw [e _ (by omega), e _ (by omega), List.range_succ, List.map_append, List.flatten_append]
  congr 1
  rw [List.map_singleton]
  exact List.append_nil _
theorem todo_start {rows : List (List Int)} {N : Nat} (h : rows.length = N) : todo rows (List.replicate N false) = (rows.map List.length).sum := by
  subst h
  unfold todo
  congr 1
  refine List.ext_getElem (by simp) fun s h1 h2 => ?_
  have hs : s < rows.length := by simpa using h2
  simp [List.getD, List.getElem?_replicate, hs]
theorem idxs_le (b : List Bool) : (idxs b).length ≤ b.length := by
  unfold idxs
  rw [List.length_flatten, List.map_map]
  have h := sum_map_le (List.range b.length) (List.length ∘ fun s => if b.getD s false then [(s : Int)] else []) (fun _ => 1) (fun s _ => by
    show (if b.getD s false then [(s : Int)] else []).length ≤ 1
    split
    · exact Nat.le_refl 1
    · exact Nat.zero_le 1)
  have h2 : ∀ n : Nat, ((List.range n).map fun _ => 1).sum = n := fun n => by
    induction n with
    | zero => rfl
    | succ n ih => rw [List.range_succ, List.map_append, List.sum_append, ih]; rfl
  rw [h2] at h
  exact h
theorem row_le (rows : List (List Int)) (s : Nat) : (rows.getD s []).length ≤ (rows.map List.length).sum := by
  induction rows generalizing s with
  | nil => simp [List.getD]
  | cons r rows ih =>
    cases s with
    | zero => simp [List.getD]
    | succ s => have := ih s; simp only [List.getD_cons_succ, List.map_cons, List.sum_cons]; omega
theorem slRows_get {rows : List (List Int)} {s : Nat} (h : s < rows.length) : take1 false 1 ((rows.map slI).drop s) = some (slI (rows.getD s [])) := by
  rw [cs_get (by simpa using h)]; simp [List.getD, h]
theorem close_wp (md X cr k) (N : Nat) (hN : N ≤ 100000) (rows : List (List Int)) (hr : rows.length = N) (l : List Int) (hsz : l.length + (rows.map List.length).sum ≤ 1000000) (hk : l.length + (rows.map List.length).sum + N < k) :
    WP (EX md X) cr k (fun _ => none) (Try.f39.body.getD .skip) (begin_ [closerV N rows, slI l]) (fun _ => none) 0 (fun u a o nx => u = .ret ∧ A.view o vDepth (a 4) = slI (idxs (closeB N rows l))) := by
  simp only [Try.f39, Option.getD_some]
  have hz : (cI (List.replicate l.length 0)).drop l.length = [] := by simp [cI]
  simp (disch := omega) only [go_sem, ↓IntWalk.iteOmega, IntWalk.toNatUp, Nat.reduceEqDiff, Nat.reduceAdd, Nat.reduceMul, Nat.reduceSub, Nat.reduceLT, Nat.reduceLeDiff, Int.reduceToNat, Int.reduceLT, Int.reduceLE, Int.reduceEq, Int.reduceAdd, Int.reduceSub, Int.reduceMul, Int.toNat_natCast, reduceCtorEq, decide_true, decide_false, IntWalk.i64_in, IntWalk.u64_in, IntWalk.u8_in, begin_, rep_bool, rep_int, hz]
  refine WP_loop (fun m a o nx => ∃ b full n g, Mid N rows l b (full.take n) ∧ n ≤ full.length ∧ m = n + todo rows b ∧ 4 ≤ nx ∧ m ≤ l.length + (rows.map List.length).sum ∧ a 2 = .ptr (0, 2) (0, 2) 0 ∧ a 5 = .ref (1, 13) (1, 13) 0 N ∧ a 6 = .ref (2, 16) g 0 n ∧
      o (0, 2) = some (.row ⟨79, 1, (0, 2), false, true, [.int .i64 N, .sl N (rows.map slI)]⟩) ∧ o (1, 13) = some (.row ⟨4, 1, (1, 13), false, true, cB b⟩) ∧ o (2, 16) = some (.row ⟨3, 1, g, false, true, cI full⟩)) (l.length + (rows.map List.length).sum) ?_ ?_ ?_
  · omega
  · refine ⟨List.replicate N false, l, l.length, (2, 16), by rw [List.take_length]; exact Mid.start N rows l, Nat.le_refl _, by rw [todo_start hr], by omega, Nat.le_refl _, ?_⟩
    simp only [go_sem, ↓IntWalk.iteOmega, IntWalk.toNatUp, Nat.reduceEqDiff, Nat.reduceAdd, Nat.reduceMul, Nat.reduceSub, Nat.reduceLT, Nat.reduceLeDiff, Int.reduceToNat, Int.reduceLT, Int.reduceLE, Int.reduceEq, Int.reduceAdd, Int.reduceSub, Int.reduceMul, Int.toNat_natCast, reduceCtorEq, decide_true, decide_false, IntWalk.i64_in, IntWalk.u64_in, IntWalk.u8_in, begin_]
  · rintro m a o nx ⟨b, full, n, g, hM, hn, rfl, hnx, hm, h2, h5, h6, ho2, ho13, ho16⟩
    have hbl := hM.len
    by_cases h0 : n = 0
    · subst h0
      rw [List.take_zero] at hM
      have hdone := hM.done
      simp (disch := omega) only [go_sem, ↓IntWalk.iteOmega, IntWalk.toNatUp, Nat.reduceEqDiff, Nat.reduceAdd, Nat.reduceMul, Nat.reduceSub, Nat.reduceLT, Nat.reduceLeDiff, Int.reduceToNat, Int.reduceLT, Int.reduceLE, Int.reduceEq, Int.reduceAdd, Int.reduceSub, Int.reduceMul, Int.toNat_natCast, reduceCtorEq, decide_true, decide_false, IntWalk.i64_in, IntWalk.u64_in, IntWalk.u8_in, h2, h5, h6, ho2, ho13, ho16]
      refine WP_loop (fun m a o nx' => ∃ i g, i ≤ N ∧ m = N - i ∧ nx + 2 ≤ nx' ∧ a 8 = .ref (nx + 1, 61) g 0 (idxs (b.take i)).length ∧ a 62 = .ref (1, 13) (1, 13) 0 N ∧ a 63 = .int .i64 N ∧ a 64 = .int .i64 i ∧
        o (1, 13) = some (.row ⟨4, 1, (1, 13), false, true, cB b⟩) ∧ o (nx + 1, 61) = some (.row ⟨3, 1, g, false, true, cI (idxs (b.take i))⟩)) N ?_ ?_ ?_
      · omega
      · refine ⟨0, (nx + 1, 61), by omega, by omega, by omega, ?_⟩
        have h0 : idxs (b.take 0) = [] := rfl
        simp only [go_sem, ↓IntWalk.iteOmega, IntWalk.toNatUp, Nat.reduceEqDiff, Nat.reduceAdd, Nat.reduceMul, Nat.reduceSub, Nat.reduceLT, Nat.reduceLeDiff, Int.reduceToNat, Int.reduceLT, Int.reduceLE, Int.reduceEq, Int.reduceAdd, Int.reduceSub, Int.reduceMul, Int.toNat_natCast, reduceCtorEq, decide_true, decide_false, IntWalk.i64_in, IntWalk.u64_in, IntWalk.u8_in, ho13, h0]
        exact ⟨rfl, rfl⟩
      · rintro m a o nx' ⟨i, g, hi, rfl, hnx', h8, h62, h63, h64, ho13, ho61⟩
        by_cases hlt : i < N
        · have hib : i < b.length := by omega
          have hgb := cB_get (s := 1) hib
          have hsn := idxs_snoc hib
          have hle := idxs_le (b.take i)
          rw [List.length_take] at hle
          cases hbi : b.getD i false with
          | true =>
            rw [hbi] at hgb hsn
            rw [if_pos rfl] at hsn
            simp (disch := omega) only [go_sem, ↓IntWalk.iteOmega, IntWalk.toNatUp, Nat.reduceEqDiff, Nat.reduceAdd, Nat.reduceMul, Nat.reduceSub, Nat.reduceLT, Nat.reduceLeDiff, Int.reduceToNat, Int.reduceLT, Int.reduceLE, Int.reduceEq, Int.reduceAdd, Int.reduceSub, Int.reduceMul, Int.toNat_natCast, reduceCtorEq, decide_true, decide_false, IntWalk.i64_in, IntWalk.u64_in, IntWalk.u8_in, h8, h62, h63, h64, ho13, ho61, hgb, IntWalk.i64_in]
            exact ⟨_, by omega, i + 1, _, by omega, rfl, by omega, by rw [hsn, List.length_append]; rfl, by simp, by rw [hsn, cI_app]; rfl⟩
          | false =>
            rw [hbi] at hgb hsn
            rw [if_neg (by simp), List.append_nil] at hsn
            simp (disch := omega) only [go_sem, ↓IntWalk.iteOmega, IntWalk.toNatUp, Nat.reduceEqDiff, Nat.reduceAdd, Nat.reduceMul, Nat.reduceSub, Nat.reduceLT, Nat.reduceLeDiff, Int.reduceToNat, Int.reduceLT, Int.reduceLE, Int.reduceEq, Int.reduceAdd, Int.reduceSub, Int.reduceMul, Int.toNat_natCast, reduceCtorEq, decide_true, decide_false, IntWalk.i64_in, IntWalk.u64_in, IntWalk.u8_in, h8, h62, h63, h64, ho13, ho61, hgb, IntWalk.i64_in]
            exact ⟨_, by omega, i + 1, g, by omega, rfl, by omega, by rw [hsn], by simp, by rw [hsn]⟩
        · have e : i = N := by omega
          subst e
          rw [List.take_of_length_le (by omega)] at h8 ho61
          have hlb := idxs_le b
          rw [← hdone]
          by_cases hz : (idxs b).length = 0
          · simp (disch := omega) only [go_sem, ↓IntWalk.iteOmega, IntWalk.toNatUp, Nat.reduceEqDiff, Nat.reduceAdd, Nat.reduceMul, Nat.reduceSub, Nat.reduceLT, Nat.reduceLeDiff, Int.reduceToNat, Int.reduceLT, Int.reduceLE, Int.reduceEq, Int.reduceAdd, Int.reduceSub, Int.reduceMul, Int.toNat_natCast, reduceCtorEq, decide_true, decide_false, IntWalk.i64_in, IntWalk.u64_in, IntWalk.u8_in, h8, h62, h63, h64, ho13, ho61, hz]
            rw [List.length_eq_zero_iff.1 hz]; rfl
          · simp (disch := omega) only [go_sem, ↓IntWalk.iteOmega, IntWalk.toNatUp, Nat.reduceEqDiff, Nat.reduceAdd, Nat.reduceMul, Nat.reduceSub, Nat.reduceLT, Nat.reduceLeDiff, Int.reduceToNat, Int.reduceLT, Int.reduceLE, Int.reduceEq, Int.reduceAdd, Int.reduceSub, Int.reduceMul, Int.toNat_natCast, reduceCtorEq, decide_true, decide_false, IntWalk.i64_in, IntWalk.u64_in, IntWalk.u8_in, h8, h62, h63, h64, ho13, ho61, hz]
    · have hg := cI_get (s := 1) (show n - 1 < full.length by omega)
      have htk : full.take n = full.take (n - 1) ++ [full.getD (n - 1) 0] := by
        have := take_succ_getD (show n - 1 < full.length by omega) 0
        rwa [show n - 1 + 1 = n by omega] at this
      rw [htk] at hM
      generalize full.getD (n - 1) 0 = x at hg htk hM
      have htk1 : (full.take (n - 1)).length = n - 1 := by rw [List.length_take]; omega
      by_cases hx0 : 0 ≤ x
      · obtain ⟨s, rfl⟩ := Int.eq_ofNat_of_zero_le hx0
        by_cases hs : s < N
        · have hgb := cB_get (s := 1) (show s < b.length by omega)
          have hrow := slRows_get (rows := rows) (show s < rows.length by omega)
          have hcs := cB_set b s true (by omega)
          cases hbs : b.getD s false with
          | true =>
            rw [hbs] at hgb
            simp (disch := omega) only [go_sem, ↓IntWalk.iteOmega, IntWalk.toNatUp, Nat.reduceEqDiff, Nat.reduceAdd, Nat.reduceMul, Nat.reduceSub, Nat.reduceLT, Nat.reduceLeDiff, Int.reduceToNat, Int.reduceLT, Int.reduceLE, Int.reduceEq, Int.reduceAdd, Int.reduceSub, Int.reduceMul, Int.toNat_natCast, reduceCtorEq, decide_true, decide_false, IntWalk.i64_in, IntWalk.u64_in, IntWalk.u8_in, h2, h5, h6, ho2, ho13, ho16, hg, hgb, IntWalk.i64_in]
            refine ⟨_, ?_, b, full, n - 1, g, hM.skip (fun t ht _ => ?_), by omega, rfl, by omega, rfl, rfl, rfl⟩
            · omega
            · have : s = t := by omega
              rw [← this, hbs]
          | false =>
            rw [hbs] at hgb
            have htd := todo_set (rows := rows) (show s < b.length by omega) hbs
            have hrl : (rows.getD s []).length ≤ (rows.map List.length).sum := row_le rows s
            simp (disch := omega) only [go_sem, ↓IntWalk.iteOmega, IntWalk.toNatUp, Nat.reduceEqDiff, Nat.reduceAdd, Nat.reduceMul, Nat.reduceSub, Nat.reduceLT, Nat.reduceLeDiff, Int.reduceToNat, Int.reduceLT, Int.reduceLE, Int.reduceEq, Int.reduceAdd, Int.reduceSub, Int.reduceMul, Int.toNat_natCast, reduceCtorEq, decide_true, decide_false, IntWalk.i64_in, IntWalk.u64_in, IntWalk.u8_in, h2, h5, h6, ho2, ho13, ho16, hg, hgb, hrow, hcs, cI_take, IntWalk.i64_in]
            refine ⟨_, ?_, b.set s true, full.take (n - 1) ++ rows.getD s [], n - 1 + (rows.getD s []).length, _, ?_, ?_, rfl, ?_, rfl, rfl, by rw [cI_app]⟩
            · omega
            · rw [List.take_of_length_le (by rw [List.length_append]; omega)]
              exact hM.mark hs
            · rw [List.length_append]; omega
            · omega
        · simp (disch := omega) only [go_sem, ↓IntWalk.iteOmega, IntWalk.toNatUp, Nat.reduceEqDiff, Nat.reduceAdd, Nat.reduceMul, Nat.reduceSub, Nat.reduceLT, Nat.reduceLeDiff, Int.reduceToNat, Int.reduceLT, Int.reduceLE, Int.reduceEq, Int.reduceAdd, Int.reduceSub, Int.reduceMul, Int.toNat_natCast, reduceCtorEq, decide_true, decide_false, IntWalk.i64_in, IntWalk.u64_in, IntWalk.u8_in, h2, h5, h6, ho2, ho13, ho16, hg, IntWalk.i64_in]
          exact ⟨_, by omega, b, full, n - 1, g, hM.skip (fun t ht htN => by omega), by omega, rfl, by omega, rfl, rfl, rfl⟩
      · simp (disch := omega) only [go_sem, ↓IntWalk.iteOmega, IntWalk.toNatUp, Nat.reduceEqDiff, Nat.reduceAdd, Nat.reduceMul, Nat.reduceSub, Nat.reduceLT, Nat.reduceLeDiff, Int.reduceToNat, Int.reduceLT, Int.reduceLE, Int.reduceEq, Int.reduceAdd, Int.reduceSub, Int.reduceMul, Int.toNat_natCast, reduceCtorEq, decide_true, decide_false, IntWalk.i64_in, IntWalk.u64_in, IntWalk.u8_in, h2, h5, h6, ho2, ho13, ho16, hg, IntWalk.i64_in]
        exact ⟨_, by omega, b, full, n - 1, g, hM.skip (fun t ht _ => by omega), by omega, rfl, by omega, rfl, rfl, rfl⟩
theorem look39 (X) : lookedAt (EX md0 X) (fun _ => none) 2 Try.f39 = true := by kernel_rfl
theorem close_ok (N : Nat) (hN : N ≤ 100000) (rows : List (List Int)) (hr : rows.length = N) (l : List Int) (hsz : l.length + (rows.map List.length).sum ≤ 1000000) : Ok Try.prog 39 [closerV N rows, slI l] (slI (idxs (closeB N rows l))) := by
  refine ok_of_WP (E := EX md0 (fun _ _ => none)) (cr := noR) (tab_nil _) (noR_ok _) mixed (k := l.length + (rows.map List.length).sum + N + 1) Try.func39 (look39 _) rfl (WP_mono (close_wp _ _ _ _ N hN rows hr l hsz (by omega)) ?_)
  rintro u a o nx ⟨rfl, h⟩
  exact ⟨.inr rfl, h⟩
end Go.Proofs.Ytcaemgpificohaa.A
/- nfa.Close, nfa.Run: contracts. -/
namespace Go.Proofs.Ytcaemgpificohaa.A
open Go
set_option maxRecDepth 20000
/-! ### relations -/
def R38 (args : List AV) (r : AV) : Prop := ∃ (N : Nat) (S F : Int) (ss : List (Int × Int × Int)) (fs : List (Int × Int)), N ≤ 1000 ∧ fs.length ≤ 100000 ∧ (∀ p ∈ fs, 0 ≤ p.1 ∧ p.1 < (N : Int)) ∧ args = [nfaV N S F ss fs] ∧ r = closerV N (rowsOf N fs)
def R39 (args : List AV) (r : AV) : Prop := ∃ (N : Nat) (rows : List (List Int)) (l : List Int), N ≤ 100000 ∧ rows.length = N ∧ l.length + (rows.map List.length).sum ≤ 1000000 ∧ args = [closerV N rows, slI l] ∧ r = slI (idxs (closeB N rows l))
theorem R38_fn : Fun1 R38 := by
  rintro args r r' ⟨N, S, F, ss, fs, _, _, _, rfl, rfl⟩ ⟨N', S', F', ss', fs', _, _, _, h, rfl⟩
  simp only [nfaV, List.cons.injEq, AV.agg.injEq, AV.int.injEq, AV.sl.injEq, true_and, and_true] at h
  obtain ⟨h1, _, _, _, _, h2⟩ := h
  have h1 : N = N' := by omega
  rw [h1, cP_inj h2]
theorem R39_fn : Fun1 R39 := by
  rintro args r r' ⟨N, rows, l, _, _, _, rfl, rfl⟩ ⟨N', rows', l', _, _, _, h, rfl⟩
  simp only [closerV, List.cons.injEq, AV.agg.injEq, AV.int.injEq, AV.sl.injEq, true_and, and_true] at h
  obtain ⟨⟨h1, _, h2⟩, _, h3⟩ := h
  have h1 : N = N' := by omega
  rw [h1, slIs_inj h2, cI_inj h3]
theorem R38_ok (args r) (h : R38 args r) : Ok Try.prog 38 args r := by
  obtain ⟨N, S, F, ss, fs, h1, h2, h3, rfl, rfl⟩ := h
  exact closing_ok N S F h1 ss fs h2 h3
theorem R39_ok (args r) (h : R39 args r) : Ok Try.prog 39 args r := by
  obtain ⟨N, rows, l, h1, h2, h3, rfl, rfl⟩ := h
  exact close_ok N h1 rows h2 l h3
theorem rows_sum {N : Nat} {fs : List (Int × Int)} (h : ∀ p ∈ fs, 0 ≤ p.1 ∧ p.1 < (N : Int)) : ((rowsOf N fs).map List.length).sum = fs.length := by
  have key : ∀ (l : List (Int × Int)) (rows : List (List Int)), rows.length = N → (∀ p ∈ l, 0 ≤ p.1 ∧ p.1 < (N : Int)) → ((l.foldl rowAdd rows).map List.length).sum = (rows.map List.length).sum + l.length := fun l => by
    induction l with
    | nil => intro rows _ _; simp
    | cons p l ih =>
      intro rows hl hp
      have hp0 := hp p (List.mem_cons_self ..)
      have hlt : p.1.toNat < rows.length := by omega
      rw [List.foldl_cons, ih _ (by simpa [rowAdd] using hl) (fun q hq => hp q (List.mem_cons_of_mem _ hq))]
      have : ((rowAdd rows p).map List.length).sum = (rows.map List.length).sum + 1 := by
        unfold rowAdd
        have e : ∀ (rs : List (List Int)) (i : Nat) (x : List Int), i < rs.length → ((rs.set i x).map List.length).sum + (rs.getD i []).length = (rs.map List.length).sum + x.length := fun rs => by
          induction rs with
          | nil => intro i x h; simp at h
          | cons r rs ih =>
            intro i x h
            cases i with
            | zero => simp [List.getD]; omega
            | succ i =>
              have := ih i x (by simpa using h)
              simp only [List.set_cons_succ, List.map_cons, List.sum_cons, List.getD_cons_succ]
              omega
        have := e rows p.1.toNat (rows.getD p.1.toNat [] ++ [p.2]) hlt
        rw [List.length_append, List.length_singleton] at this
        omega
      rw [this, List.length_cons]; omega
  have := key fs (List.replicate N []) (by simp) h
  simpa [rowsOf] using this

/-! ### Close -/
noncomputable def X28 : FuncId → List AV → Option AV := tabLook [(38, tRel R38), (39, tRel R39)]
theorem X28_ok : CPSound Try.prog X28 := tab_cons (tab_cons (tab_nil _) (tRel_ok R39_ok)) (tRel_ok R38_ok)
theorem X28_38 {N : Nat} (S F : Int) (ss) {fs : List (Int × Int)} (hN : N ≤ 1000) (hfs : fs.length ≤ 100000) (hin : ∀ p ∈ fs, 0 ≤ p.1 ∧ p.1 < (N : Int)) : X28 38 [nfaV N S F ss fs] = some (closerV N (rowsOf N fs)) := by
  show tRel R38 _ = _
  exact tRel_eq R38_fn ⟨N, S, F, ss, fs, hN, hfs, hin, rfl, rfl⟩
theorem X28_39 {N : Nat} {fs : List (Int × Int)} (hN : N ≤ 1000) (hfs : fs.length ≤ 100000) (hin : ∀ p ∈ fs, 0 ≤ p.1 ∧ p.1 < (N : Int)) (l : List Int) (hl : l.length ≤ 900000) : X28 39 [closerV N (rowsOf N fs), slI l] = some (slI (idxs (closeB N (rowsOf N fs) l))) := by
  show tRel R39 _ = _
  exact tRel_eq R39_fn ⟨N, rowsOf N fs, l, by omega, rowsOf_length _ _, by rw [rows_sum hin]; omega, rfl, rfl⟩
theorem look28 (X) : lookedAt (EX md0 X) (fun _ => none) 2 Try.f28 = true := by kernel_rfl
theorem nfaClose_ok (N : Nat) (hN : N ≤ 1000) (S F : Int) (ss) (fs : List (Int × Int)) (hfs : fs.length ≤ 100000) (hin : ∀ p ∈ fs, 0 ≤ p.1 ∧ p.1 < (N : Int)) (l : List Int) (hl : l.length ≤ 900000) : Ok Try.prog 28 [nfaV N S F ss fs, slI l] (slI (idxs (closeB N (rowsOf N fs) l))) := by
  refine ok_of_WP (E := EX md0 X28) (cr := noR) X28_ok (noR_ok _) mixed (k := 0) Try.func28 (look28 _) rfl ?_
  have h38 := X28_38 S F ss hN hfs hin
  have h39 := X28_39 hN hfs hin l hl
  simp only [Try.f28, Option.getD_some]
  simp (disch := omega) only [go_sem, ↓IntWalk.iteOmega, IntWalk.toNatUp, Nat.reduceEqDiff, Nat.reduceAdd, Nat.reduceMul, Nat.reduceSub, Nat.reduceLT, Nat.reduceLeDiff, Int.reduceToNat, Int.reduceLT, Int.reduceLE, Int.reduceEq, Int.reduceAdd, Int.reduceSub, Int.reduceMul, Int.toNat_natCast, reduceCtorEq, decide_true, decide_false, IntWalk.i64_in, IntWalk.u64_in, IntWalk.u8_in, begin_, h38, h39]

/-! ### Run -/
/-- Is a mode one of a set's? -/
def hasMode (set m : Int) : Bool := decide (andI .i64 (set.fdiv (2 ^ min m.toNat 64)) 1 = 1)
/-- Does a step lead on by a mode, from states? -/
def leads (b : List Bool) (m : Int) (s : Int × Int × Int) : Bool := b.getD s.1.toNat false && (decide (0 ≤ m) && decide (m < 5) && hasMode s.2.2 m)
def nextOf (ss : List (Int × Int × Int)) (b : List Bool) (m : Int) : List Int := (ss.filter (leads b m)).map (·.2.1)
noncomputable def stepB (N : Nat) (rows : List (List Int)) (ss : List (Int × Int × Int)) (b : List Bool) (m : Int) : List Bool := closeB N rows (nextOf ss b m)
noncomputable def setB (N : Nat) (S : Int) (ss : List (Int × Int × Int)) (fs : List (Int × Int)) (w : List Int) : List Bool := w.foldl (stepB N (rowsOf N fs) ss) (closeB N (rowsOf N fs) [S])
noncomputable def runB (N : Nat) (S F : Int) (ss : List (Int × Int × Int)) (fs : List (Int × Int)) (w : List Int) : Bool := (setB N S ss fs w).getD F.toNat false
theorem setB_snoc (N S ss fs w m) : setB N S ss fs (w ++ [m]) = stepB N (rowsOf N fs) ss (setB N S ss fs w) m := by simp [setB]
theorem setB_length (N S ss fs w) : (setB N S ss fs w).length = N := by
  rcases List.eq_nil_or_concat w with rfl | ⟨w, m, rfl⟩
  · simp [setB, closeB_length]
  · rw [List.concat_eq_append, setB_snoc, stepB, closeB_length]
theorem nextOf_snoc (ss s b m) : nextOf (ss ++ [s]) b m = nextOf ss b m ++ (if leads b m s then [s.2.1] else []) := by
  unfold nextOf
  rw [List.filter_append, List.map_append]
  congr 1
  cases h : leads b m s <;> simp [h]
theorem nextOf_le (ss b m) : (nextOf ss b m).length ≤ ss.length := by
  unfold nextOf; rw [List.length_map]; exact List.length_filter_le _ _
theorem mem_idxs {b : List Bool} {x : Int} : x ∈ idxs b ↔ ∃ s : Nat, x = s ∧ b.getD s false = true := by
  unfold idxs
  rw [List.mem_flatten]
  constructor
  · rintro ⟨l, hl, hx⟩
    obtain ⟨s, _, rfl⟩ := List.mem_map.1 hl
    cases hb : b.getD s false with
    | true => rw [hb] at hx; exact ⟨s, by simpa using hx, hb⟩
    | false => rw [hb] at hx; simp at hx
  · rintro ⟨s, rfl, hb⟩
    have hs : s < b.length := by
      by_cases h : s < b.length
      · exact h
      · rw [List.getD, List.getElem?_eq_none (by omega)] at hb; cases hb
    exact ⟨_, List.mem_map.2 ⟨s, List.mem_range.2 hs, rfl⟩, by rw [hb]; simp⟩
def marks (N : Nat) (l : List Int) : List Bool := l.foldl (fun b s => b.set s.toNat true) (List.replicate N false)
theorem marks_snoc (N l x) : marks N (l ++ [x]) = (marks N l).set x.toNat true := by simp [marks]
theorem marks_length (N l) : (marks N l).length = N := by
  have : ∀ (l : List Int) (b : List Bool), (l.foldl (fun b s => b.set s.toNat true) b).length = b.length := fun l => by
    induction l with
    | nil => intro; rfl
    | cons x l ih => intro b; rw [List.foldl_cons, ih, List.length_set]
  rw [marks, this, List.length_replicate]
theorem marks_get (N : Nat) (l : List Int) (h : ∀ x ∈ l, 0 ≤ x ∧ x < (N : Int)) (s : Nat) : (marks N l).getD s false = true ↔ (s : Int) ∈ l := by
  have key : ∀ (l : List Int) (b : List Bool), b.length = N → (∀ x ∈ l, 0 ≤ x ∧ x < (N : Int)) → ((l.foldl (fun b s => b.set s.toNat true) b).getD s false = true ↔ b.getD s false = true ∨ (s : Int) ∈ l) := fun l => by
    induction l with
    | nil => intro b _ _; simp
    | cons x l ih =>
      intro b hb hx
      have h0 := hx x (List.mem_cons_self ..)
      rw [List.foldl_cons, ih _ (by rw [List.length_set]; exact hb) (fun y hy => hx y (List.mem_cons_of_mem _ hy)), getD_set _ _ _ _ _ (by omega), List.mem_cons]
      by_cases e : x.toNat = s
      · have : (s : Int) = x := by omega
        simp [e, this]
      · have : ¬ (s : Int) = x := by omega
        rw [if_neg e]; simp [this]
  have h0 : (List.replicate N false).getD s false = false := by simp only [List.getD, List.getElem?_replicate]; split <;> rfl
  have := key l (List.replicate N false) (by simp) h
  rw [h0] at this
  simpa [marks] using this
theorem idxs_in {b : List Bool} {x : Int} (h : x ∈ idxs b) : 0 ≤ x ∧ x < b.length := by
  obtain ⟨s, rfl, hb⟩ := mem_idxs.1 h
  by_cases h : s < b.length
  · omega
  · rw [List.getD, List.getElem?_eq_none (by omega)] at hb; cases hb
theorem marks_idxs (b : List Bool) : marks b.length (idxs b) = b := by
  refine List.ext_getElem (marks_length _ _) fun s h1 h2 => ?_
  have e1 : (marks b.length (idxs b)).getD s false = (marks b.length (idxs b))[s] := by simp [List.getD, h1]
  have e2 : b.getD s false = b[s] := by simp [List.getD, h2]
  rw [Bool.eq_iff_iff, ← e1, ← e2, marks_get _ _ (fun x hx => idxs_in hx), mem_idxs]
  constructor
  · rintro ⟨t, ht, hb⟩
    have : s = t := by omega
    rw [this]; exact hb
  · exact fun hb => ⟨s, rfl, hb⟩
/-- A machine that may be. -/
structure Wf (N : Nat) (S F : Int) (ss : List (Int × Int × Int)) (fs : List (Int × Int)) : Prop where
  n : N ≤ 1000
  s : 0 ≤ S ∧ S < N
  f : 0 ≤ F ∧ F < N
  ls : ss.length ≤ 100000
  lf : fs.length ≤ 100000
  steps : ∀ p ∈ ss, (0 ≤ p.1 ∧ p.1 < N) ∧ (0 ≤ p.2.1 ∧ p.2.1 < N)
  free : ∀ p ∈ fs, (0 ≤ p.1 ∧ p.1 < N) ∧ (0 ≤ p.2 ∧ p.2 < N)
theorem getD_mem {α : Type} {l : List α} {i : Nat} (h : i < l.length) (d : α) : l.getD i d ∈ l := by
  have : l.getD i d = l[i] := by simp [List.getD, h]
  rw [this]; exact List.getElem_mem h

theorem look20 (X) : lookedAt (EX md0 X) (fun _ => none) 2 Try.f20 = true := by kernel_rfl
theorem nfaRun_ok (N : Nat) (S F : Int) (ss) (fs : List (Int × Int)) (hw : Wf N S F ss fs) (w : List Int) (hlw : w.length ≤ 1000000) : Ok Try.prog 20 [nfaV N S F ss fs, slI w] (.bool (runB N S F ss fs w)) := by
  refine ok_of_WP (E := EX md0 X28) (cr := noR) X28_ok (noR_ok _) mixed (k := N + ss.length + w.length + 1) Try.func20 (look20 _) rfl ?_
  have h38 := X28_38 S F ss hw.n hw.lf (fun p hp => (hw.free p hp).1)
  have h39 := X28_39 hw.n hw.lf (fun p hp => (hw.free p hp).1)
  have hN := hw.n
  have hls := hw.ls
  simp only [Try.f20, Option.getD_some]
  have h39a := h39 [S] (by simp)
  rw [show slI [S] = .sl 1 [.int .i64 S] from rfl] at h39a
  simp (disch := omega) only [go_sem, ↓IntWalk.iteOmega, IntWalk.toNatUp, Nat.reduceEqDiff, Nat.reduceAdd, Nat.reduceMul, Nat.reduceSub, Nat.reduceLT, Nat.reduceLeDiff, Int.reduceToNat, Int.reduceLT, Int.reduceLE, Int.reduceEq, Int.reduceAdd, Int.reduceSub, Int.reduceMul, Int.toNat_natCast, reduceCtorEq, decide_true, decide_false, IntWalk.i64_in, IntWalk.u64_in, IntWalk.u8_in, begin_, h38, h39a]
  refine WP_loop (fun m a o nx => ∃ i, i ≤ w.length ∧ m = w.length - i ∧ 4 ≤ nx ∧ a 2 = .ptr (0, 2) (0, 2) 0 ∧ a 5 = .fn (.func 39) [closerV N (rowsOf N fs)] [] ∧ a 6 = slI (idxs (setB N S ss fs (w.take i))) ∧ a 25 = slI w ∧ a 26 = .int .i64 w.length ∧ a 27 = .int .i64 i ∧
    o (0, 2) = some (.row ⟨28, 1, (0, 2), false, true, [.int .i64 N, .int .i64 S, .int .i64 F, .sl ss.length (cS ss), .sl fs.length (cP fs)]⟩)) w.length ?_ ?_ ?_
  · omega
  · refine ⟨0, by omega, by omega, ?_⟩
    simp only [go_sem, ↓IntWalk.iteOmega, IntWalk.toNatUp, Nat.reduceEqDiff, Nat.reduceAdd, Nat.reduceMul, Nat.reduceSub, Nat.reduceLT, Nat.reduceLeDiff, Int.reduceToNat, Int.reduceLT, Int.reduceLE, Int.reduceEq, Int.reduceAdd, Int.reduceSub, Int.reduceMul, Int.toNat_natCast, reduceCtorEq, decide_true, decide_false, IntWalk.i64_in, IntWalk.u64_in, IntWalk.u8_in, List.take_zero]
    rfl
  · rintro m a o nx ⟨i, hi, rfl, hnx, h2, h5, h6, h25, h26, h27, ho2⟩
    by_cases hlt : i < w.length
    · have hgw := cI_get (s := 1) hlt
      have htk := take_succ_getD hlt 0
      generalize w.getD i 0 = x at hgw htk
      simp (disch := omega) only [go_sem, ↓IntWalk.iteOmega, IntWalk.toNatUp, Nat.reduceEqDiff, Nat.reduceAdd, Nat.reduceMul, Nat.reduceSub, Nat.reduceLT, Nat.reduceLeDiff, Int.reduceToNat, Int.reduceLT, Int.reduceLE, Int.reduceEq, Int.reduceAdd, Int.reduceSub, Int.reduceMul, Int.toNat_natCast, reduceCtorEq, decide_true, decide_false, IntWalk.i64_in, IntWalk.u64_in, IntWalk.u8_in, h2, h5, h6, h25, h26, h27, ho2, hgw, rep_bool, IntWalk.i64_in]
      have hbl := setB_length N S ss fs (w.take i)
      have hnext : setB N S ss fs (w.take (i + 1)) = closeB N (rowsOf N fs) (nextOf ss (setB N S ss fs (w.take i)) x) := by rw [htk, setB_snoc]; rfl
      generalize setB N S ss fs (w.take i) = b at hbl hnext
      refine WP_loop (fun m a o nx' => ∃ j, j ≤ (idxs b).length ∧ m = (idxs b).length - j ∧ nx + 4 ≤ nx' ∧ a 2 = .ptr (0, 2) (0, 2) 0 ∧ a 5 = .fn (.func 39) [closerV N (rowsOf N fs)] [] ∧ a 8 = .int .i64 x ∧ a 9 = .ref (nx + 2, 33) (nx + 2, 33) 0 N ∧ a 25 = slI w ∧ a 26 = .int .i64 w.length ∧ a 27 = .int .i64 i ∧ a 34 = slI (idxs b) ∧ a 35 = .int .i64 (idxs b).length ∧ a 36 = .int .i64 j ∧
        o (0, 2) = some (.row ⟨28, 1, (0, 2), false, true, [.int .i64 N, .int .i64 S, .int .i64 F, .sl ss.length (cS ss), .sl fs.length (cP fs)]⟩) ∧ o (nx + 2, 33) = some (.row ⟨4, 1, (nx + 2, 33), false, true, cB (marks N ((idxs b).take j))⟩)) (idxs b).length ?_ ?_ ?_
      · have := idxs_le b; omega
      · refine ⟨0, by omega, by omega, by omega, ?_⟩
        simp only [go_sem, ↓IntWalk.iteOmega, IntWalk.toNatUp, Nat.reduceEqDiff, Nat.reduceAdd, Nat.reduceMul, Nat.reduceSub, Nat.reduceLT, Nat.reduceLeDiff, Int.reduceToNat, Int.reduceLT, Int.reduceLE, Int.reduceEq, Int.reduceAdd, Int.reduceSub, Int.reduceMul, Int.toNat_natCast, reduceCtorEq, decide_true, decide_false, IntWalk.i64_in, IntWalk.u64_in, IntWalk.u8_in, h2, h5, h25, h26, h27, ho2, List.take_zero]
        rfl
      · rintro m a o nx' ⟨j, hj, rfl, hnx', h2, h5, h8, h9, h25, h26, h27, h34, h35, h36, ho2, ho33⟩
        by_cases hjl : j < (idxs b).length
        · have hgj := cI_get (s := 1) hjl
          have hin := idxs_in (getD_mem hjl 0)
          have htj := take_succ_getD hjl 0
          generalize (idxs b).getD j 0 = y at hgj hin htj
          obtain ⟨y, rfl⟩ := Int.eq_ofNat_of_zero_le hin.1
          have hml := marks_length N ((idxs b).take j)
          have hset := cB_set (marks N ((idxs b).take j)) y true (by omega)
          have hlb := idxs_le b
          simp (disch := omega) only [go_sem, ↓IntWalk.iteOmega, IntWalk.toNatUp, Nat.reduceEqDiff, Nat.reduceAdd, Nat.reduceMul, Nat.reduceSub, Nat.reduceLT, Nat.reduceLeDiff, Int.reduceToNat, Int.reduceLT, Int.reduceLE, Int.reduceEq, Int.reduceAdd, Int.reduceSub, Int.reduceMul, Int.toNat_natCast, reduceCtorEq, decide_true, decide_false, IntWalk.i64_in, IntWalk.u64_in, IntWalk.u8_in, h2, h5, h8, h9, h25, h26, h27, h34, h35, h36, ho2, ho33, hgj, hml, hset, IntWalk.i64_in]
          exact ⟨_, by omega, j + 1, by omega, rfl, by omega, rfl, by rw [htj, marks_snoc]; rfl⟩
        · have hje : j = (idxs b).length := by omega
          have hmk := marks_idxs b
          rw [hbl] at hmk
          rw [hje, List.take_length, hmk] at ho33
          simp (disch := omega) only [go_sem, ↓IntWalk.iteOmega, IntWalk.toNatUp, Nat.reduceEqDiff, Nat.reduceAdd, Nat.reduceMul, Nat.reduceSub, Nat.reduceLT, Nat.reduceLeDiff, Int.reduceToNat, Int.reduceLT, Int.reduceLE, Int.reduceEq, Int.reduceAdd, Int.reduceSub, Int.reduceMul, Int.toNat_natCast, reduceCtorEq, decide_true, decide_false, IntWalk.i64_in, IntWalk.u64_in, IntWalk.u8_in, h2, h5, h8, h9, h25, h26, h27, h34, h35, h36, ho2, ho33, IntWalk.i64_in]
          refine WP_loop (fun m a o nx'' => ∃ j v, j ≤ ss.length ∧ m = ss.length - j ∧ nx' + 3 ≤ nx'' ∧ a 2 = .ptr (0, 2) (0, 2) 0 ∧ a 5 = .fn (.func 39) [closerV N (rowsOf N fs)] [] ∧ a 8 = .int .i64 x ∧ a 9 = .ref (nx + 2, 33) (nx + 2, 33) 0 N ∧ a 25 = slI w ∧ a 26 = .int .i64 w.length ∧ a 27 = .int .i64 i ∧ a 45 = .sl ss.length (cS ss) ∧ a 46 = .int .i64 ss.length ∧ a 47 = .int .i64 j ∧ a 12 = v ∧
            HS 3 1 76 o nx'' v (nextOf (ss.take j) b x).length (cI (nextOf (ss.take j) b x)) ∧
            o (0, 2) = some (.row ⟨28, 1, (0, 2), false, true, [.int .i64 N, .int .i64 S, .int .i64 F, .sl ss.length (cS ss), .sl fs.length (cP fs)]⟩) ∧ o (nx + 2, 33) = some (.row ⟨4, 1, (nx + 2, 33), false, true, cB b⟩)) ss.length ?_ ?_ ?_
          · omega
          · refine ⟨0, .nil, by omega, by omega, by omega, ?_⟩
            simp only [go_sem, ↓IntWalk.iteOmega, IntWalk.toNatUp, Nat.reduceEqDiff, Nat.reduceAdd, Nat.reduceMul, Nat.reduceSub, Nat.reduceLT, Nat.reduceLeDiff, Int.reduceToNat, Int.reduceLT, Int.reduceLE, Int.reduceEq, Int.reduceAdd, Int.reduceSub, Int.reduceMul, Int.toNat_natCast, reduceCtorEq, decide_true, decide_false, IntWalk.i64_in, IntWalk.u64_in, IntWalk.u8_in, h2, h5, h8, h9, h25, h26, h27, ho2, ho33, List.take_zero]
            exact HS.nil
          · rintro m a o nx'' ⟨j, v, hj, rfl, hnx'', h2, h5, h8, h9, h25, h26, h27, h45, h46, h47, h12, hHS, ho2, ho33⟩
            by_cases hjs : j < ss.length
            · have hat := cS_at hjs
              obtain ⟨⟨q1, q2⟩, _⟩ := hw.steps _ (getD_mem hjs (0, 0, 0))
              have htj := take_succ_getD hjs (0, 0, 0)
              have hnl := nextOf_le (ss.take j) b x
              rw [List.length_take] at hnl
              generalize ss.getD j (0, 0, 0) = p at hat q1 q2 htj
              obtain ⟨f, t, set⟩ := p
              simp only at hat q1 q2
              obtain ⟨f, rfl⟩ := Int.eq_ofNat_of_zero_le q1
              have hgb := cB_get (s := 1) (show f < b.length by omega)
              have hsn : nextOf (ss.take (j + 1)) b x = nextOf (ss.take j) b x ++ (if leads b x (↑f, t, set) then [t] else []) := by rw [htj, nextOf_snoc]
              have hld : leads b x (↑f, t, set) = (b.getD f false && (decide (0 ≤ x) && decide (x < 5) && hasMode set x)) := rfl
              cases hbf : b.getD f false with
              | false =>
                rw [hbf] at hgb hld
                rw [hld] at hsn
                simp only [Bool.false_and, Bool.false_eq_true, if_false, List.append_nil] at hsn
                simp (disch := omega) only [go_sem, ↓IntWalk.iteOmega, IntWalk.toNatUp, Nat.reduceEqDiff, Nat.reduceAdd, Nat.reduceMul, Nat.reduceSub, Nat.reduceLT, Nat.reduceLeDiff, Int.reduceToNat, Int.reduceLT, Int.reduceLE, Int.reduceEq, Int.reduceAdd, Int.reduceSub, Int.reduceMul, Int.toNat_natCast, reduceCtorEq, decide_true, decide_false, IntWalk.i64_in, IntWalk.u64_in, IntWalk.u8_in, h2, h5, h8, h9, h25, h26, h27, h45, h46, h47, h12, ho2, ho33, hat, hgb, IntWalk.i64_in]
                exact ⟨_, by omega, j + 1, v, by omega, rfl, by omega, rfl, rfl, by rw [hsn]; exact hHS.keep (fun _ _ => by simp [upd_app]) (by omega)⟩
              | true =>
                rw [hbf] at hgb hld
                rw [hld] at hsn
                by_cases hx0 : 0 ≤ x
                · by_cases hx5 : x < 5
                  · rw [decide_eq_true hx0, decide_eq_true hx5] at hsn
                    cases hm : hasMode set x with
                    | true =>
                      rw [hm] at hsn
                      simp only [hasMode, decide_eq_true_eq] at hm
                      simp only [Bool.and_self, if_true] at hsn
                      have hHS' := hHS
                      rcases hHS with ⟨rfl, e2, e3⟩ | ⟨i1, g1, rfl, hi1, hrow, hlen⟩
                      · simp (disch := omega) only [go_sem, ↓IntWalk.iteOmega, IntWalk.toNatUp, Nat.reduceEqDiff, Nat.reduceAdd, Nat.reduceMul, Nat.reduceSub, Nat.reduceLT, Nat.reduceLeDiff, Int.reduceToNat, Int.reduceLT, Int.reduceLE, Int.reduceEq, Int.reduceAdd, Int.reduceSub, Int.reduceMul, Int.toNat_natCast, reduceCtorEq, decide_true, decide_false, IntWalk.i64_in, IntWalk.u64_in, IntWalk.u8_in, h2, h5, h8, h9, h25, h26, h27, h45, h46, h47, h12, ho2, ho33, hat, hgb, hm, IntWalk.i64_in]
                        have e4 : nextOf (ss.take j) b x = [] := List.length_eq_zero_iff.1 e2
                        refine ⟨_, ?_, j + 1, _, by omega, rfl, by omega, rfl, rfl, .inr ⟨nx'' + 3, (nx'' + 3, 76), ?_, by omega, ?_, ?_⟩⟩
                        · omega
                        · rw [hsn, e4]; rfl
                        · rw [hsn, e4]; simp [upd_app, cI]
                        · rw [hsn, e4]; rfl
                      · simp (disch := omega) only [go_sem, ↓IntWalk.iteOmega, IntWalk.toNatUp, Nat.reduceEqDiff, Nat.reduceAdd, Nat.reduceMul, Nat.reduceSub, Nat.reduceLT, Nat.reduceLeDiff, Int.reduceToNat, Int.reduceLT, Int.reduceLE, Int.reduceEq, Int.reduceAdd, Int.reduceSub, Int.reduceMul, Int.toNat_natCast, reduceCtorEq, decide_true, decide_false, IntWalk.i64_in, IntWalk.u64_in, IntWalk.u8_in, h2, h5, h8, h9, h25, h26, h27, h45, h46, h47, h12, ho2, ho33, hat, hgb, hm, hrow, IntWalk.i64_in]
                        refine ⟨_, ?_, j + 1, _, by omega, rfl, by omega, rfl, rfl, .inr ⟨i1, (nx'' + 3, 76), ?_, by omega, ?_, ?_⟩⟩
                        · omega
                        · rw [hsn, List.length_append]; rfl
                        · rw [hsn, cI_app]; simp [upd_app, cI]
                        · rw [cI_length, Nat.mul_one]
                    | false =>
                      rw [hm] at hsn
                      simp only [hasMode, decide_eq_false_iff_not] at hm
                      simp only [Bool.and_self, Bool.and_false, Bool.false_eq_true, if_false, List.append_nil] at hsn
                      simp (disch := omega) only [go_sem, ↓IntWalk.iteOmega, IntWalk.toNatUp, Nat.reduceEqDiff, Nat.reduceAdd, Nat.reduceMul, Nat.reduceSub, Nat.reduceLT, Nat.reduceLeDiff, Int.reduceToNat, Int.reduceLT, Int.reduceLE, Int.reduceEq, Int.reduceAdd, Int.reduceSub, Int.reduceMul, Int.toNat_natCast, reduceCtorEq, decide_true, decide_false, IntWalk.i64_in, IntWalk.u64_in, IntWalk.u8_in, h2, h5, h8, h9, h25, h26, h27, h45, h46, h47, h12, ho2, ho33, hat, hgb, hm, IntWalk.i64_in]
                      exact ⟨_, by omega, j + 1, v, by omega, rfl, by omega, rfl, rfl, by rw [hsn]; exact hHS.keep (fun _ _ => by simp [upd_app]) (by omega)⟩
                  · rw [decide_eq_false hx5] at hsn
                    simp only [Bool.and_false, Bool.false_and, Bool.false_eq_true, if_false, List.append_nil] at hsn
                    simp (disch := omega) only [go_sem, ↓IntWalk.iteOmega, IntWalk.toNatUp, Nat.reduceEqDiff, Nat.reduceAdd, Nat.reduceMul, Nat.reduceSub, Nat.reduceLT, Nat.reduceLeDiff, Int.reduceToNat, Int.reduceLT, Int.reduceLE, Int.reduceEq, Int.reduceAdd, Int.reduceSub, Int.reduceMul, Int.toNat_natCast, reduceCtorEq, decide_true, decide_false, IntWalk.i64_in, IntWalk.u64_in, IntWalk.u8_in, h2, h5, h8, h9, h25, h26, h27, h45, h46, h47, h12, ho2, ho33, hat, hgb, IntWalk.i64_in]
                    exact ⟨_, by omega, j + 1, v, by omega, rfl, by omega, rfl, rfl, by rw [hsn]; exact hHS.keep (fun _ _ => by simp [upd_app]) (by omega)⟩
                · rw [decide_eq_false hx0] at hsn
                  simp only [Bool.and_false, Bool.false_and, Bool.false_eq_true, if_false, List.append_nil] at hsn
                  simp (disch := omega) only [go_sem, ↓IntWalk.iteOmega, IntWalk.toNatUp, Nat.reduceEqDiff, Nat.reduceAdd, Nat.reduceMul, Nat.reduceSub, Nat.reduceLT, Nat.reduceLeDiff, Int.reduceToNat, Int.reduceLT, Int.reduceLE, Int.reduceEq, Int.reduceAdd, Int.reduceSub, Int.reduceMul, Int.toNat_natCast, reduceCtorEq, decide_true, decide_false, IntWalk.i64_in, IntWalk.u64_in, IntWalk.u8_in, h2, h5, h8, h9, h25, h26, h27, h45, h46, h47, h12, ho2, ho33, hat, hgb, IntWalk.i64_in]
                  exact ⟨_, by omega, j + 1, v, by omega, rfl, by omega, rfl, rfl, by rw [hsn]; exact hHS.keep (fun _ _ => by simp [upd_app]) (by omega)⟩
            · have hje : j = ss.length := by omega
              subst hje
              rw [List.take_length] at hHS
              have hvw : view o 12 v = slI (nextOf ss b x) := by have := hHS.view 11; rwa [view_cI] at this
              have hnin : nin (0, 2) (viewTags o 12 v) = true := hHS.nin 11 (tags_cI _ _ _) (by decide)
              have hnl := nextOf_le ss b x
              simp (disch := omega) only [go_sem, ↓IntWalk.iteOmega, IntWalk.toNatUp, Nat.reduceEqDiff, Nat.reduceAdd, Nat.reduceMul, Nat.reduceSub, Nat.reduceLT, Nat.reduceLeDiff, Int.reduceToNat, Int.reduceLT, Int.reduceLE, Int.reduceEq, Int.reduceAdd, Int.reduceSub, Int.reduceMul, Int.toNat_natCast, reduceCtorEq, decide_true, decide_false, IntWalk.i64_in, IntWalk.u64_in, IntWalk.u8_in, h2, h5, h8, h9, h25, h26, h27, h45, h46, h47, h12, ho2, ho33, hvw, hnin, h39, IntWalk.i64_in]
              exact ⟨_, by omega, i + 1, by omega, rfl, by omega, by rw [hnext], rfl⟩
    · have hie : i = w.length := by omega
      subst hie
      rw [List.take_length] at h6
      have hbl := setB_length N S ss fs w
      have hrun : runB N S F ss fs w = (setB N S ss fs w).getD F.toNat false := rfl
      rw [hrun]
      generalize setB N S ss fs w = b at hbl h6
      simp (disch := omega) only [go_sem, ↓IntWalk.iteOmega, IntWalk.toNatUp, Nat.reduceEqDiff, Nat.reduceAdd, Nat.reduceMul, Nat.reduceSub, Nat.reduceLT, Nat.reduceLeDiff, Int.reduceToNat, Int.reduceLT, Int.reduceLE, Int.reduceEq, Int.reduceAdd, Int.reduceSub, Int.reduceMul, Int.toNat_natCast, reduceCtorEq, decide_true, decide_false, IntWalk.i64_in, IntWalk.u64_in, IntWalk.u8_in, h2, h5, h6, h25, h26, h27, ho2, IntWalk.i64_in]
      have hwf := hw.f
      obtain ⟨F, rfl⟩ := Int.eq_ofNat_of_zero_le hwf.1
      rw [Int.toNat_natCast]
      refine WP_loop (fun m a o nx' => ∃ j, j ≤ (idxs b).length ∧ m = (idxs b).length - j ∧ nx + 2 ≤ nx' ∧ a 2 = .ptr (0, 2) (0, 2) 0 ∧ a 82 = slI (idxs b) ∧ a 83 = .int .i64 (idxs b).length ∧ a 84 = .int .i64 j ∧ ¬ (F : Int) ∈ (idxs b).take j ∧
        o (0, 2) = some (.row ⟨28, 1, (0, 2), false, true, [.int .i64 N, .int .i64 S, .int .i64 F, .sl ss.length (cS ss), .sl fs.length (cP fs)]⟩)) (idxs b).length ?_ ?_ ?_
      · have := idxs_le b; omega
      · refine ⟨0, by omega, by omega, by omega, ?_⟩
        simp only [go_sem, ↓IntWalk.iteOmega, IntWalk.toNatUp, Nat.reduceEqDiff, Nat.reduceAdd, Nat.reduceMul, Nat.reduceSub, Nat.reduceLT, Nat.reduceLeDiff, Int.reduceToNat, Int.reduceLT, Int.reduceLE, Int.reduceEq, Int.reduceAdd, Int.reduceSub, Int.reduceMul, Int.toNat_natCast, reduceCtorEq, decide_true, decide_false, IntWalk.i64_in, IntWalk.u64_in, IntWalk.u8_in, h2, ho2, List.take_zero]
        simp
      · rintro m a o nx' ⟨j, hj, rfl, hnx', h2, h82, h83, h84, hmem, ho2⟩
        have hlb := idxs_le b
        by_cases hjl : j < (idxs b).length
        · have hgj := cI_get (s := 1) hjl
          have htj := take_succ_getD hjl 0
          have hmj := getD_mem hjl 0
          generalize (idxs b).getD j 0 = y at hgj htj hmj
          by_cases hy : y = F
          · subst hy
            have hb : b.getD F false = true := by
              obtain ⟨s, h1, h2⟩ := mem_idxs.1 hmj
              rwa [show s = F by omega] at h2
            simp (disch := omega) only [go_sem, ↓IntWalk.iteOmega, IntWalk.toNatUp, Nat.reduceEqDiff, Nat.reduceAdd, Nat.reduceMul, Nat.reduceSub, Nat.reduceLT, Nat.reduceLeDiff, Int.reduceToNat, Int.reduceLT, Int.reduceLE, Int.reduceEq, Int.reduceAdd, Int.reduceSub, Int.reduceMul, Int.toNat_natCast, reduceCtorEq, decide_true, decide_false, IntWalk.i64_in, IntWalk.u64_in, IntWalk.u8_in, h2, h82, h83, h84, ho2, hgj, hb, IntWalk.i64_in]
          · simp (disch := omega) only [go_sem, ↓IntWalk.iteOmega, IntWalk.toNatUp, Nat.reduceEqDiff, Nat.reduceAdd, Nat.reduceMul, Nat.reduceSub, Nat.reduceLT, Nat.reduceLeDiff, Int.reduceToNat, Int.reduceLT, Int.reduceLE, Int.reduceEq, Int.reduceAdd, Int.reduceSub, Int.reduceMul, Int.toNat_natCast, reduceCtorEq, decide_true, decide_false, IntWalk.i64_in, IntWalk.u64_in, IntWalk.u8_in, h2, h82, h83, h84, ho2, hgj, hy, IntWalk.i64_in]
            exact ⟨_, by omega, j + 1, by omega, rfl, by omega, rfl, by rw [htj, List.mem_append, List.mem_singleton]; exact fun h => h.elim hmem (fun h => hy h.symm)⟩
        · have hje : j = (idxs b).length := by omega
          rw [hje, List.take_length] at hmem
          have hb : b.getD F false = false := by
            rw [← Bool.not_eq_true]
            exact fun hb => hmem (mem_idxs.2 ⟨F, rfl, hb⟩)
          simp (disch := omega) only [go_sem, ↓IntWalk.iteOmega, IntWalk.toNatUp, Nat.reduceEqDiff, Nat.reduceAdd, Nat.reduceMul, Nat.reduceSub, Nat.reduceLT, Nat.reduceLeDiff, Int.reduceToNat, Int.reduceLT, Int.reduceLE, Int.reduceEq, Int.reduceAdd, Int.reduceSub, Int.reduceMul, Int.toNat_natCast, reduceCtorEq, decide_true, decide_false, IntWalk.i64_in, IntWalk.u64_in, IntWalk.u8_in, h2, h82, h83, h84, ho2, hb, IntWalk.i64_in]
end Go.Proofs.Ytcaemgpificohaa.A
/- The document's closure: closed, List. -/
namespace Go.Proofs.Ytcaemgpificohaa.A
open Go
set_option maxRecDepth 20000
theorem rowsOf_mem {N : Nat} {fs : List (Int × Int)} (hin : ∀ p ∈ fs, 0 ≤ p.1 ∧ p.1 < (N : Int)) {j : Nat} (hj : j < N) (x : Int) : x ∈ (rowsOf N fs).getD j [] ↔ ((j : Int), x) ∈ fs := by
  have key : ∀ (l : List (Int × Int)) (rows : List (List Int)), rows.length = N → (∀ p ∈ l, 0 ≤ p.1 ∧ p.1 < (N : Int)) → (x ∈ (l.foldl rowAdd rows).getD j [] ↔ x ∈ rows.getD j [] ∨ ((j : Int), x) ∈ l) := fun l => by
    induction l with
    | nil => intro rows _ _; simp
    | cons p l ih =>
      intro rows hl hp
      have hp0 := hp p (List.mem_cons_self ..)
      rw [List.foldl_cons, ih _ (by simpa [rowAdd] using hl) (fun q hq => hp q (List.mem_cons_of_mem _ hq)), rowAdd, getD_set _ _ _ _ _ (by omega), List.mem_cons]
      obtain ⟨f, t⟩ := p
      simp only at hp0 ⊢
      by_cases e : f.toNat = j
      · have : f = (j : Int) := by omega
        subst this
        rw [if_pos e, Int.toNat_natCast, List.mem_append, List.mem_singleton]
        simp only [Prod.mk.injEq, true_and]
        exact or_assoc
      · rw [if_neg e]
        have : ¬ ((j : Int), x) = (f, t) := fun h => by injection h with h _; omega
        simp [this]
  have h0 : (List.replicate N ([] : List Int)).getD j [] = [] := by simp [List.getD, List.getElem?_replicate, hj]
  have := key fs (List.replicate N []) (by simp) hin
  rw [h0] at this
  simpa [rowsOf] using this
theorem Rch.mono {N rows l l'} (h : ∀ s : Nat, (s : Int) ∈ l → s < N → (s : Int) ∈ l') {s} (hr : Rch N rows l s) : Rch N rows l' s := by
  induction hr with
  | base s hm hs => exact .base s (h s hm hs) hs
  | step s t _ hm ht ih => exact .step s t ih hm ht
theorem closeB_congr {N rows l l'} (h : ∀ s : Nat, s < N → ((s : Int) ∈ l ↔ (s : Int) ∈ l')) : closeB N rows l = closeB N rows l' := by
  refine closeB_unique (closeB_length _ _ _) fun s => ?_
  rw [closeB_get]
  exact ⟨Rch.mono fun s hm hs => (h s hs).1 hm, Rch.mono fun s hm hs => (h s hs).2 hm⟩
def falses (b : List Bool) : Nat := ((List.range b.length).map fun s => if b.getD s false then 0 else 1).sum
theorem falses_set {b : List Bool} {s : Nat} (hs : s < b.length) (hb : b.getD s false = false) : falses (b.set s true) + 1 = falses b := by
  unfold falses
  rw [List.length_set]
  have := sum_map_one b.length s hs (fun x => if (b.set s true).getD x false then 0 else 1) (fun x => if b.getD x false then 0 else 1) (fun x hx => by
    rw [getD_set _ _ _ _ _ hs, if_neg (show ¬ s = x from fun hc => hx hc.symm)])
  rw [hb, getD_set _ _ _ _ _ hs, if_pos rfl] at this
  rw [if_neg (by simp), if_pos rfl] at this
  omega
theorem falses_idxs (b : List Bool) : falses b + (idxs b).length = b.length := by
  have key : ∀ n, ((List.range n).map fun s => if b.getD s false then 0 else 1).sum + (((List.range n).map fun s => if b.getD s false then [(s : Int)] else []).flatten).length = n := fun n => by
    induction n with
    | zero => rfl
    | succ n ih =>
      rw [List.range_succ, List.map_append, List.map_append, List.sum_append, List.flatten_append, List.length_append]
      have : ([n].map fun s => if b.getD s false then 0 else 1).sum + (([n].map fun s => if b.getD s false then [(s : Int)] else []).flatten).length = 1 := by
        simp only [List.map_cons, List.map_nil, List.sum_cons, List.sum_nil, List.flatten_cons, List.flatten_nil]
        cases b.getD n false <;> rfl
      omega
  exact key b.length
/-- Between two rounds of the search. -/
structure Bfs (N : Nat) (rows : List (List Int)) (src : List Int) (b : List Bool) (l : List Int) (i : Nat) : Prop where
  len : b.length = N
  cnt : falses b + l.length = N
  mark : ∀ s : Nat, b.getD s false = true ↔ (s : Int) ∈ l
  ok : ∀ x ∈ l, 0 ≤ x ∧ x < (N : Int)
  sound : ∀ s, b.getD s false = true → Rch N rows src s
  base : ∀ s : Nat, (s : Int) ∈ src → s < N → b.getD s false = true
  done : ∀ s : Nat, (s : Int) ∈ l.take i → ∀ t : Nat, (t : Int) ∈ rows.getD s [] → b.getD t false = true
theorem Bfs.start (rows) (b : List Bool) : Bfs b.length rows (idxs b) b (idxs b) 0 :=
  ⟨rfl, falses_idxs b, fun s => by rw [mem_idxs]; exact ⟨fun h => ⟨s, rfl, h⟩, fun ⟨t, ht, h⟩ => by rwa [show s = t by omega]⟩, fun x hx => idxs_in hx,
    fun s h => .base s (mem_idxs.2 ⟨s, rfl, h⟩) (by by_cases hs : s < b.length; · exact hs
                                                    · rw [List.getD, List.getElem?_eq_none (by omega)] at h; cases h),
    fun s hm _ => by obtain ⟨t, ht, h⟩ := mem_idxs.1 hm; rwa [show s = t by omega], fun s hm => by simp at hm⟩
theorem Bfs.finish {N rows src b l} (h : Bfs N rows src b l l.length) : b = closeB N rows src := by
  refine closeB_unique h.len fun s => ⟨h.sound s, fun hr => ?_⟩
  induction hr with
  | base s hm hs => exact h.base s hm hs
  | step s t _ hm ht ih => exact h.done s (by rw [List.take_length]; exact (h.mark s).1 ih) t hm
theorem Bfs.add {N rows src b l i} (h : Bfs N rows src b l i) (hi : i < l.length) {s t : Nat} (hs : l.getD i 0 = s) (ht : t < N) (hm : (t : Int) ∈ rows.getD s []) (hb : b.getD t false = false) : Bfs N rows src (b.set t true) (l ++ [(t : Int)]) i := by
  have htl : t < b.length := by rw [h.len]; exact ht
  have hg : ∀ u, (b.set t true).getD u false = true ↔ u = t ∨ b.getD u false = true := fun u => by
    rw [getD_set _ _ _ _ _ htl]
    by_cases e : t = u
    · simp [e]
    · rw [if_neg e]; simp [show ¬ u = t from fun hc => e hc.symm]
  have hsl : (s : Int) ∈ l := by rw [← hs]; exact getD_mem hi 0
  refine ⟨by simpa using h.len, ?_, fun u => ?_, fun x hx => ?_, fun u hu => ?_, fun u hu hn => (hg u).2 (.inr (h.base u hu hn)), fun u hu v hv => ?_⟩
  · have := falses_set htl hb
    have := h.cnt
    rw [List.length_append, List.length_singleton]; omega
  · rw [hg, List.mem_append, List.mem_singleton, h.mark]
    constructor
    · rintro (rfl | h)
      · exact .inr rfl
      · exact .inl h
    · rintro (h | h)
      · exact .inr h
      · exact .inl (by omega)
  · rcases List.mem_append.1 hx with hx | hx
    · exact h.ok x hx
    · rw [List.mem_singleton.1 hx]; omega
  · rcases (hg u).1 hu with rfl | hu
    · exact .step s u (h.sound s ((h.mark s).2 hsl)) hm ht
    · exact h.sound u hu
  · rw [List.take_append_of_le_length (by omega)] at hu
    exact (hg v).2 (.inr (h.done u hu v hv))
theorem Bfs.next {N rows src b l i} (h : Bfs N rows src b l i) (hi : i < l.length) {s : Nat} (hs : l.getD i 0 = s) (hd : ∀ t : Nat, (t : Int) ∈ rows.getD s [] → b.getD t false = true) : Bfs N rows src b l (i + 1) :=
  ⟨h.len, h.cnt, h.mark, h.ok, h.sound, h.base, fun u hu t ht => by
    rw [take_succ_getD hi 0, hs, List.mem_append, List.mem_singleton] at hu
    rcases hu with hu | hu
    · exact h.done u hu t ht
    · rw [show u = s by omega] at ht; exact hd t ht⟩
def nz46 : Nat → Option (List (Nat × Nat))
  | 13 => some [(2, 10), (5, 10), (7, 10), (2, 11)]
  | _ => none
theorem closed_wp (md X cr k) (N : Nat) (S F : Int) (ss fs) (hw : Wf N S F ss fs) (is : List Bool) (his : is.length = N) (hk : N + fs.length + 1 < k) :
    WP (EX md X) cr k nz46 (Try.f46.body.getD .skip) (begin_ [nfaV N S F ss fs, slB is]) (fun _ => none) 0 (fun u a o nx => u = .ret ∧ A.view o vDepth (a 4) = slB (closeB N (rowsOf N fs) (idxs is))) := by
  have hN := hw.n
  have hlf := hw.lf
  simp only [Try.f46, Option.getD_some]
  have hz : ([] : List AV).length = 0 := rfl
  simp (disch := omega) only [go_sem, ↓IntWalk.iteOmega, IntWalk.toNatUp, Nat.reduceEqDiff, Nat.reduceAdd, Nat.reduceMul, Nat.reduceSub, Nat.reduceLT, Nat.reduceLeDiff, Int.reduceToNat, Int.reduceLT, Int.reduceLE, Int.reduceEq, Int.reduceAdd, Int.reduceSub, Int.reduceMul, Int.toNat_natCast, reduceCtorEq, decide_true, decide_false, IntWalk.i64_in, IntWalk.u64_in, IntWalk.u8_in, begin_, nz46, his]
  refine WP_loop (fun m a o nx => ∃ i, i ≤ N ∧ m = N - i ∧ 4 ≤ nx ∧ a 2 = .ptr (0, 2) (0, 2) 0 ∧ a 5 = .ref (1, 14) (1, 16) 0 N ∧ a 7 = .int .i64 i ∧ HS 3 1 30 o nx (a 6) (idxs (is.take i)).length (cI (idxs (is.take i))) ∧
    o (0, 2) = some (.row ⟨28, 1, (0, 2), false, true, [.int .i64 N, .int .i64 S, .int .i64 F, .sl ss.length (cS ss), .sl fs.length (cP fs)]⟩) ∧ o (1, 14) = some (.row ⟨4, 1, (1, 16), false, true, cB is⟩)) N ?_ ?_ ?_
  · omega
  · refine ⟨0, by omega, by omega, ?_⟩
    simp only [go_sem, ↓IntWalk.iteOmega, IntWalk.toNatUp, Nat.reduceEqDiff, Nat.reduceAdd, Nat.reduceMul, Nat.reduceSub, Nat.reduceLT, Nat.reduceLeDiff, Int.reduceToNat, Int.reduceLT, Int.reduceLE, Int.reduceEq, Int.reduceAdd, Int.reduceSub, Int.reduceMul, Int.toNat_natCast, reduceCtorEq, decide_true, decide_false, IntWalk.i64_in, IntWalk.u64_in, IntWalk.u8_in, List.take_zero]
    exact HS.nil
  · rintro m a o nx ⟨i, hi, rfl, hnx, h2, h5, h7, hHS, ho2, ho14⟩
    by_cases hlt : i < N
    · have hgb := cB_get (s := 1) (show i < is.length by omega)
      have hsn := idxs_snoc (show i < is.length by omega)
      have hle := idxs_le (is.take i)
      rw [List.length_take] at hle
      generalize hv : a 6 = v at hHS
      cases hb : is.getD i false with
      | true =>
        rw [hb] at hgb hsn
        rw [if_pos rfl] at hsn
        rcases hHS with ⟨rfl, e2, e3⟩ | ⟨i1, g1, rfl, hi1, hrow, hlen⟩
        · simp (disch := omega) only [go_sem, ↓IntWalk.iteOmega, IntWalk.toNatUp, Nat.reduceEqDiff, Nat.reduceAdd, Nat.reduceMul, Nat.reduceSub, Nat.reduceLT, Nat.reduceLeDiff, Int.reduceToNat, Int.reduceLT, Int.reduceLE, Int.reduceEq, Int.reduceAdd, Int.reduceSub, Int.reduceMul, Int.toNat_natCast, reduceCtorEq, decide_true, decide_false, IntWalk.i64_in, IntWalk.u64_in, IntWalk.u8_in, h2, h5, hv, h7, ho2, ho14, hgb, IntWalk.i64_in]
          have e4 : idxs (is.take i) = [] := List.length_eq_zero_iff.1 e2
          refine ⟨_, ?_, i + 1, by omega, rfl, rfl, .inr ⟨nx + 2, (nx + 2, 30), ?_, by omega, ?_, ?_⟩⟩
          · omega
          · rw [hsn, e4]; rfl
          · rw [hsn, e4]; simp [upd_app, cI]
          · rw [hsn, e4]; rfl
        · simp (disch := omega) only [go_sem, ↓IntWalk.iteOmega, IntWalk.toNatUp, Nat.reduceEqDiff, Nat.reduceAdd, Nat.reduceMul, Nat.reduceSub, Nat.reduceLT, Nat.reduceLeDiff, Int.reduceToNat, Int.reduceLT, Int.reduceLE, Int.reduceEq, Int.reduceAdd, Int.reduceSub, Int.reduceMul, Int.toNat_natCast, reduceCtorEq, decide_true, decide_false, IntWalk.i64_in, IntWalk.u64_in, IntWalk.u8_in, h2, h5, hv, h7, ho2, ho14, hgb, hrow, IntWalk.i64_in]
          refine ⟨_, ?_, i + 1, by omega, rfl, rfl, .inr ⟨i1, (nx + 2, 30), ?_, by omega, ?_, ?_⟩⟩
          · omega
          · rw [hsn, List.length_append]; rfl
          · rw [hsn, cI_app]; simp [upd_app, cI]
          · rw [cI_length, Nat.mul_one]
      | false =>
        rw [hb] at hgb hsn
        rw [if_neg (by simp), List.append_nil] at hsn
        simp (disch := omega) only [go_sem, ↓IntWalk.iteOmega, IntWalk.toNatUp, Nat.reduceEqDiff, Nat.reduceAdd, Nat.reduceMul, Nat.reduceSub, Nat.reduceLT, Nat.reduceLeDiff, Int.reduceToNat, Int.reduceLT, Int.reduceLE, Int.reduceEq, Int.reduceAdd, Int.reduceSub, Int.reduceMul, Int.toNat_natCast, reduceCtorEq, decide_true, decide_false, IntWalk.i64_in, IntWalk.u64_in, IntWalk.u8_in, h2, h5, hv, h7, ho2, ho14, hgb, IntWalk.i64_in]
        exact ⟨_, by omega, i + 1, by omega, rfl, by omega, rfl, by rw [hsn]; exact hHS.keep (fun _ _ => rfl) (by omega)⟩
    · have hie : i = N := by omega
      rw [hie, ← his, List.take_length] at hHS
      simp (disch := omega) only [go_sem, ↓IntWalk.iteOmega, IntWalk.toNatUp, Nat.reduceEqDiff, Nat.reduceAdd, Nat.reduceMul, Nat.reduceSub, Nat.reduceLT, Nat.reduceLeDiff, Int.reduceToNat, Int.reduceLT, Int.reduceLE, Int.reduceEq, Int.reduceAdd, Int.reduceSub, Int.reduceMul, Int.toNat_natCast, reduceCtorEq, decide_true, decide_false, IntWalk.i64_in, IntWalk.u64_in, IntWalk.u8_in, h2, h5, h7, ho2, ho14, rep_one, IntWalk.i64_in]
      refine WP_loop (fun m a o nx' => ∃ i cs, i ≤ fs.length ∧ m = fs.length - i ∧ NI 57 o nx' cs (rowsOf N (fs.take i)) ∧ nx + 3 ≤ nx' ∧ a 2 = .ptr (0, 2) (0, 2) 0 ∧ a 5 = .ref (1, 14) (1, 16) 0 N ∧ a 8 = .ref (nx + 1, 33) (nx + 1, 33) 0 N ∧ a 9 = .int .i64 i ∧ HS 3 1 30 o nx' (a 6) (idxs is).length (cI (idxs is)) ∧
        o (0, 2) = some (.row ⟨28, 1, (0, 2), false, true, [.int .i64 N, .int .i64 S, .int .i64 F, .sl ss.length (cS ss), .sl fs.length (cP fs)]⟩) ∧ o (1, 14) = some (.row ⟨4, 1, (1, 16), false, true, cB is⟩) ∧ o (nx + 1, 33) = some (.row ⟨40, 1, (nx + 1, 33), false, true, cs⟩)) fs.length ?_ ?_ ?_
      · omega
      · refine ⟨0, List.replicate N .nil, by omega, by omega, NI.start _ _ _ N, by omega, ?_⟩
        simp only [go_sem, ↓IntWalk.iteOmega, IntWalk.toNatUp, Nat.reduceEqDiff, Nat.reduceAdd, Nat.reduceMul, Nat.reduceSub, Nat.reduceLT, Nat.reduceLeDiff, Int.reduceToNat, Int.reduceLT, Int.reduceLE, Int.reduceEq, Int.reduceAdd, Int.reduceSub, Int.reduceMul, Int.toNat_natCast, reduceCtorEq, decide_true, decide_false, IntWalk.i64_in, IntWalk.u64_in, IntWalk.u8_in, h2, h5, ho2, ho14]
        exact hHS.keep (fun _ _ => by simp [upd_app]) (by omega)
      · clear h2 h5 h7 ho2 ho14 hHS hie
        rintro m a o nx' ⟨i, cs, hi, rfl, hNI, hnx', h2, h5, h8, h9, hHS, ho2, ho14, ho33⟩
        by_cases hlt : i < fs.length
        · obtain ⟨⟨hf0, hfN⟩, _⟩ := hw.free _ (getD_mem hlt (0, 0))
          have hat := cP_at hlt
          have htake := take_succ_getD hlt (0, 0)
          generalize fs.getD i (0, 0) = f at hf0 hfN hat htake
          obtain ⟨f, t⟩ := f
          simp only at hf0 hfN hat htake
          obtain ⟨j, rfl⟩ := Int.eq_ofNat_of_zero_le hf0
          have hrl := rowsOf_length N (fs.take i)
          have hcl : cs.length = N := by rw [hNI.1, hrl]
          have hjN : j < cs.length := by omega
          have hH := hNI.2.1 j (by omega)
          have hget := cs_get (s := 1) hjN
          have hspl : ∀ v, splice cs j [v] = cs.set j v := fun v => splice_eq cs j v hjN
          have hnext : rowsOf N (fs.take (i + 1)) = (rowsOf N (fs.take i)).set j ((rowsOf N (fs.take i)).getD j [] ++ [t]) := by rw [htake, rowsOf_snoc]; rfl
          have hjr : j < (rowsOf N (fs.take i)).length := by omega
          generalize hv : cs.getD j .nil = v at hH hget
          have hle := rowsOf_le N (fs.take i) j
          have hlt' : (fs.take i).length ≤ fs.length := by rw [List.length_take]; omega
          generalize (rowsOf N (fs.take i)).getD j [] = r at *
          rcases hH with ⟨rfl, e2, e3⟩ | ⟨i1, g, rfl, hi1, hrow, hlen⟩
          · simp (disch := omega) only [go_sem, ↓IntWalk.iteOmega, IntWalk.toNatUp, Nat.reduceEqDiff, Nat.reduceAdd, Nat.reduceMul, Nat.reduceSub, Nat.reduceLT, Nat.reduceLeDiff, Int.reduceToNat, Int.reduceLT, Int.reduceLE, Int.reduceEq, Int.reduceAdd, Int.reduceSub, Int.reduceMul, Int.toNat_natCast, reduceCtorEq, decide_true, decide_false, IntWalk.i64_in, IntWalk.u64_in, IntWalk.u8_in, nz46, h2, h5, h8, h9, ho2, ho14, ho33, hat, hget, hspl, IntWalk.i64_in]
            have e4 : r = [] := List.length_eq_zero_iff.1 e2
            refine ⟨_, ?_, i + 1, _, by omega, rfl, ?_, by omega, rfl, ?_, rfl⟩
            · omega
            · rw [hnext, e4]
              exact NI.set (l := [t]) hNI hjr rfl (by omega) (by omega) (.inl ⟨hv, by omega⟩) (fun i' _ h => by simp [upd_app, h]) (by simp [upd_app, cI])
            · exact hHS.keep (fun _ _ => by simp [upd_app]) (by omega)
          · simp (disch := omega) only [go_sem, ↓IntWalk.iteOmega, IntWalk.toNatUp, Nat.reduceEqDiff, Nat.reduceAdd, Nat.reduceMul, Nat.reduceSub, Nat.reduceLT, Nat.reduceLeDiff, Int.reduceToNat, Int.reduceLT, Int.reduceLE, Int.reduceEq, Int.reduceAdd, Int.reduceSub, Int.reduceMul, Int.toNat_natCast, reduceCtorEq, decide_true, decide_false, IntWalk.i64_in, IntWalk.u64_in, IntWalk.u8_in, nz46, h2, h5, h8, h9, ho2, ho14, ho33, hat, hget, hrow, hspl, IntWalk.i64_in]
            refine ⟨_, ?_, i + 1, _, by omega, rfl, ?_, by omega, rfl, ?_, rfl⟩
            · omega
            · rw [hnext]
              exact NI.set (l := r ++ [t]) hNI hjr (by simp) (by omega) (by omega) (.inr ⟨_, _, hv⟩) (fun i' _ h => by simp [upd_app, h]) (by simp [upd_app, cI])
            · exact hHS.keep (fun _ _ => by simp [upd_app]) (by omega)
        · have e : i = fs.length := by omega
          subst e
          rw [List.take_length] at hNI
          have hrl := rowsOf_length N fs
          have hcl : cs.length = N := by rw [hNI.1, hrl]
          have hrows := fun j (hj : j < N) x => rowsOf_mem (fs := fs) (fun p hp => (hw.free p hp).1) hj x
          have hrle := rowsOf_le N fs
          generalize rowsOf N fs = rows at *
          generalize hv : a 6 = v at hHS
          simp (disch := omega) only [go_sem, ↓IntWalk.iteOmega, IntWalk.toNatUp, Nat.reduceEqDiff, Nat.reduceAdd, Nat.reduceMul, Nat.reduceSub, Nat.reduceLT, Nat.reduceLeDiff, Int.reduceToNat, Int.reduceLT, Int.reduceLE, Int.reduceEq, Int.reduceAdd, Int.reduceSub, Int.reduceMul, Int.toNat_natCast, reduceCtorEq, decide_true, decide_false, IntWalk.i64_in, IntWalk.u64_in, IntWalk.u8_in, h2, h5, h8, h9, ho2, ho14, ho33, hv, IntWalk.i64_in]
          refine WP_loop (fun m a o nx'' => ∃ i b g l, Bfs N rows (idxs is) b l i ∧ i ≤ l.length ∧ m = N - i ∧ NI 57 o nx'' cs rows ∧ nx + 3 ≤ nx'' ∧ a 2 = .ptr (0, 2) (0, 2) 0 ∧ a 5 = .ref (1, 14) g 0 N ∧ a 8 = .ref (nx + 1, 33) (nx + 1, 33) 0 N ∧ a 11 = .int .i64 i ∧ HS 3 1 30 o nx'' (a 6) l.length (cI l) ∧
            o (1, 14) = some (.row ⟨4, 1, g, false, true, cB b⟩) ∧ o (nx + 1, 33) = some (.row ⟨40, 1, (nx + 1, 33), false, true, cs⟩)) N ?_ ?_ ?_
          · omega
          · refine ⟨0, is, (1, 16), idxs is, by rw [← his]; exact Bfs.start rows is, by omega, by omega, hNI.keep (fun _ _ => rfl) (by omega), by omega, ?_⟩
            simp only [go_sem, ↓IntWalk.iteOmega, IntWalk.toNatUp, Nat.reduceEqDiff, Nat.reduceAdd, Nat.reduceMul, Nat.reduceSub, Nat.reduceLT, Nat.reduceLeDiff, Int.reduceToNat, Int.reduceLT, Int.reduceLE, Int.reduceEq, Int.reduceAdd, Int.reduceSub, Int.reduceMul, Int.toNat_natCast, reduceCtorEq, decide_true, decide_false, IntWalk.i64_in, IntWalk.u64_in, IntWalk.u8_in, h2, h5, h8, ho14, ho33, hv]
            exact hHS.keep (fun _ _ => rfl) (by omega)
          · clear h2 h5 h8 h9 ho2 ho14 ho33 hHS hv hNI
            rintro m a o nx'' ⟨i, b, g, l, hB, hi, rfl, hNI, hnx'', h2, h5, h8, h11, hHS, ho14, ho33⟩
            have hlN : l.length ≤ N := by have := hB.cnt; omega
            by_cases hlt : i < l.length
            · generalize hv : a 6 = v at hHS
              have hHS' := hHS
              rcases hHS with ⟨_, e2, _⟩ | ⟨i1, g1, rfl, hi1, hrow, hlen⟩
              · omega
              obtain ⟨hs0, hsN⟩ := hB.ok _ (getD_mem hlt 0)
              obtain ⟨s, hs⟩ := Int.eq_ofNat_of_zero_le hs0
              have hsN : s < N := by omega
              simp (disch := omega) only [go_sem, ↓IntWalk.iteOmega, IntWalk.toNatUp, Nat.reduceEqDiff, Nat.reduceAdd, Nat.reduceMul, Nat.reduceSub, Nat.reduceLT, Nat.reduceLeDiff, Int.reduceToNat, Int.reduceLT, Int.reduceLE, Int.reduceEq, Int.reduceAdd, Int.reduceSub, Int.reduceMul, Int.toNat_natCast, reduceCtorEq, decide_true, decide_false, IntWalk.i64_in, IntWalk.u64_in, IntWalk.u8_in, h2, h5, h8, h11, ho14, ho33, hv, hrow, IntWalk.i64_in]
              refine WP_loop (fun m a o nx'' => ∃ j b g l, Bfs N rows (idxs is) b l i ∧ i < l.length ∧ l.getD i 0 = s ∧ j ≤ (rows.getD s []).length ∧ (∀ t : Nat, (t : Int) ∈ (rows.getD s []).take j → b.getD t false = true) ∧ m = (rows.getD s []).length - j ∧ NI 57 o nx'' cs rows ∧ nx + 3 ≤ nx'' ∧ a 2 = .ptr (0, 2) (0, 2) 0 ∧ a 5 = .ref (1, 14) g 0 N ∧ a 8 = .ref (nx + 1, 33) (nx + 1, 33) 0 N ∧ a 11 = .int .i64 i ∧ a 12 = .int .i64 j ∧ HS 3 1 30 o nx'' (a 6) l.length (cI l) ∧
                o (1, 14) = some (.row ⟨4, 1, g, false, true, cB b⟩) ∧ o (nx + 1, 33) = some (.row ⟨40, 1, (nx + 1, 33), false, true, cs⟩)) (rows.getD s []).length ?_ ?_ ?_
              · have := hrle s; omega
              · refine ⟨0, b, g, l, hB, hlt, hs, by omega, fun t ht => by simp at ht, by omega, hNI.keep (fun _ _ => rfl) (by omega), by omega, ?_⟩
                simp only [go_sem, ↓IntWalk.iteOmega, IntWalk.toNatUp, Nat.reduceEqDiff, Nat.reduceAdd, Nat.reduceMul, Nat.reduceSub, Nat.reduceLT, Nat.reduceLeDiff, Int.reduceToNat, Int.reduceLT, Int.reduceLE, Int.reduceEq, Int.reduceAdd, Int.reduceSub, Int.reduceMul, Int.toNat_natCast, reduceCtorEq, decide_true, decide_false, IntWalk.i64_in, IntWalk.u64_in, IntWalk.u8_in, h2, h5, h8, h11, ho14, ho33, hv]
                exact hHS'.keep (fun _ _ => rfl) (by omega)
              · clear h2 h5 h8 h11 ho14 ho33 hHS' hv hNI hrow hlen
                rintro m a o nx'' ⟨j, b, g, l, hB, hlt, hs, hj, hdn, rfl, hNI, hnx'', h2, h5, h8, h11, h12, hHS, ho14, ho33⟩
                have hlN : l.length ≤ N := by have := hB.cnt; omega
                have hbl := hB.len
                generalize hv : a 6 = v at hHS
                have hHS' := hHS
                rcases hHS with ⟨_, e2, _⟩ | ⟨i1, g1, rfl, hi1, hrow, hlen⟩
                · omega
                have hgl := cI_get (s := 1) hlt
                rw [hs] at hgl
                have hrs := hrle s
                have hH := hNI.2.1 s (by omega)
                have hget := cs_get (s := 1) (show s < cs.length by omega)
                generalize hv2 : cs.getD s .nil = v2 at hH hget
                rcases hH with ⟨rfl, e2, e3⟩ | ⟨i2, g2, rfl, hi2, hrow2, hlen2⟩
                · have : j = 0 := by omega
                  subst this
                  simp (disch := omega) only [go_sem, ↓IntWalk.iteOmega, IntWalk.toNatUp, Nat.reduceEqDiff, Nat.reduceAdd, Nat.reduceMul, Nat.reduceSub, Nat.reduceLT, Nat.reduceLeDiff, Int.reduceToNat, Int.reduceLT, Int.reduceLE, Int.reduceEq, Int.reduceAdd, Int.reduceSub, Int.reduceMul, Int.toNat_natCast, reduceCtorEq, decide_true, decide_false, IntWalk.i64_in, IntWalk.u64_in, IntWalk.u8_in, h2, h5, h8, h11, h12, ho14, ho33, hv, hrow, hgl, hget, IntWalk.i64_in]
                  have e4 : rows.getD s [] = [] := List.length_eq_zero_iff.1 e2
                  exact ⟨_, by omega, i + 1, b, g, l, hB.next hlt hs (fun t ht => by rw [e4] at ht; cases ht), by omega, rfl, hNI.keep (fun _ _ => rfl) (by omega), by omega, rfl, rfl, hHS'.keep (fun _ _ => rfl) (by omega), rfl⟩
                · by_cases hjl : j < (rows.getD s []).length
                  · have hgr := cI_get (s := 1) hjl
                    have htk := take_succ_getD hjl 0
                    have hmem := getD_mem hjl 0
                    have hmem2 := (hrows s hsN _).1 hmem
                    obtain ⟨_, ht0, htN⟩ := hw.free _ hmem2
                    obtain ⟨t, ht⟩ := Int.eq_ofNat_of_zero_le ht0
                    simp only at ht htN
                    rw [ht] at hgr htk hmem htN
                    have htN : t < N := by omega
                    have hgb := cB_get (s := 1) (show t < b.length by omega)
                    cases hbt : b.getD t false with
                    | true =>
                      rw [hbt] at hgb
                      simp (disch := omega) only [go_sem, ↓IntWalk.iteOmega, IntWalk.toNatUp, Nat.reduceEqDiff, Nat.reduceAdd, Nat.reduceMul, Nat.reduceSub, Nat.reduceLT, Nat.reduceLeDiff, Int.reduceToNat, Int.reduceLT, Int.reduceLE, Int.reduceEq, Int.reduceAdd, Int.reduceSub, Int.reduceMul, Int.toNat_natCast, reduceCtorEq, decide_true, decide_false, IntWalk.i64_in, IntWalk.u64_in, IntWalk.u8_in, h2, h5, h8, h11, h12, ho14, ho33, hv, hrow, hrow2, hgl, hget, hgr, hgb, IntWalk.i64_in]
                      refine ⟨_, ?_, j + 1, b, g, l, hB, hlt, hs, by omega, fun u hu => ?_, rfl, hNI.keep (fun _ _ => rfl) (by omega), by omega, rfl, rfl, hHS'.keep (fun _ _ => rfl) (by omega), rfl⟩
                      · omega
                      · rw [htk, List.mem_append, List.mem_singleton] at hu
                        rcases hu with hu | hu
                        · exact hdn u hu
                        · rw [show u = t by omega]; exact hbt
                    | false =>
                      rw [hbt] at hgb
                      have hset := cB_set b t true (by omega)
                      simp (disch := omega) only [go_sem, ↓IntWalk.iteOmega, IntWalk.toNatUp, Nat.reduceEqDiff, Nat.reduceAdd, Nat.reduceMul, Nat.reduceSub, Nat.reduceLT, Nat.reduceLeDiff, Int.reduceToNat, Int.reduceLT, Int.reduceLE, Int.reduceEq, Int.reduceAdd, Int.reduceSub, Int.reduceMul, Int.toNat_natCast, reduceCtorEq, decide_true, decide_false, IntWalk.i64_in, IntWalk.u64_in, IntWalk.u8_in, h2, h5, h8, h11, h12, ho14, ho33, hv, hrow, hrow2, hgl, hget, hgr, hgb, hset, IntWalk.i64_in]
                      have hgl' : (l ++ [(t : Int)]).getD i 0 = s := by rw [← hs]; simp [List.getD, List.getElem?_append_left hlt]
                      refine ⟨_, ?_, j + 1, b.set t true, g, l ++ [(t : Int)], hB.add hlt hs htN hmem hbt, by rw [List.length_append]; omega, hgl', by omega, fun u hu => ?_, rfl, hNI.keep (fun _ _ => by simp [upd_app]) (by omega), by omega, rfl, rfl, .inr ⟨i1, (nx'' + 4, 98), by rw [List.length_append]; rfl, by omega, ?_, by rw [cI_length, Nat.mul_one]⟩, rfl⟩
                      · omega
                      · rw [getD_set _ _ _ _ _ (by omega)]
                        split
                        · rfl
                        · rename_i hne
                          rw [htk, List.mem_append, List.mem_singleton] at hu
                          rcases hu with hu | hu
                          · exact hdn u hu
                          · exact absurd (show t = u by omega) hne
                      · rw [cI_app]; simp [upd_app, cI]
                  · simp (disch := omega) only [go_sem, ↓IntWalk.iteOmega, IntWalk.toNatUp, Nat.reduceEqDiff, Nat.reduceAdd, Nat.reduceMul, Nat.reduceSub, Nat.reduceLT, Nat.reduceLeDiff, Int.reduceToNat, Int.reduceLT, Int.reduceLE, Int.reduceEq, Int.reduceAdd, Int.reduceSub, Int.reduceMul, Int.toNat_natCast, reduceCtorEq, decide_true, decide_false, IntWalk.i64_in, IntWalk.u64_in, IntWalk.u8_in, h2, h5, h8, h11, h12, ho14, ho33, hv, hrow, hrow2, hgl, hget, IntWalk.i64_in]
                    have hje : j = (rows.getD s []).length := by omega
                    rw [hje, List.take_length] at hdn
                    exact ⟨_, by omega, i + 1, b, g, l, hB.next hlt hs hdn, by omega, rfl, hNI.keep (fun _ _ => rfl) (by omega), by omega, rfl, rfl, hHS'.keep (fun _ _ => rfl) (by omega), rfl⟩
            · have hie : i = l.length := by omega
              subst hie
              rw [← hB.finish]
              have hall : (cB b).take N = cB b := by rw [← hB.len]; exact cB_all b
              have hbl := hB.len
              generalize hv : a 6 = v at hHS
              rcases hHS with ⟨rfl, e2, _⟩ | ⟨i1, g1, rfl, hi1, hrow, hlen⟩
              · simp (disch := omega) only [go_sem, ↓IntWalk.iteOmega, IntWalk.toNatUp, Nat.reduceEqDiff, Nat.reduceAdd, Nat.reduceMul, Nat.reduceSub, Nat.reduceLT, Nat.reduceLeDiff, Int.reduceToNat, Int.reduceLT, Int.reduceLE, Int.reduceEq, Int.reduceAdd, Int.reduceSub, Int.reduceMul, Int.toNat_natCast, reduceCtorEq, decide_true, decide_false, IntWalk.i64_in, IntWalk.u64_in, IntWalk.u8_in, h2, h5, h8, h11, ho14, ho33, hv, hbl, hall, IntWalk.i64_in]
                rw [slB, hbl]
              · simp (disch := omega) only [go_sem, ↓IntWalk.iteOmega, IntWalk.toNatUp, Nat.reduceEqDiff, Nat.reduceAdd, Nat.reduceMul, Nat.reduceSub, Nat.reduceLT, Nat.reduceLeDiff, Int.reduceToNat, Int.reduceLT, Int.reduceLE, Int.reduceEq, Int.reduceAdd, Int.reduceSub, Int.reduceMul, Int.toNat_natCast, reduceCtorEq, decide_true, decide_false, IntWalk.i64_in, IntWalk.u64_in, IntWalk.u8_in, h2, h5, h8, h11, ho14, ho33, hv, hbl, hall, IntWalk.i64_in]
                rw [slB, hbl]
theorem look46 (X) : lookedAt (EX md0 X) nz46 2 Try.f46 = true := by kernel_rfl
theorem closed_ok (N : Nat) (S F : Int) (ss fs) (hw : Wf N S F ss fs) (is : List Bool) (his : is.length = N) : Ok Try.prog 46 [nfaV N S F ss fs, slB is] (slB (closeB N (rowsOf N fs) (idxs is))) := by
  refine ok_of_WP (E := EX md0 (fun _ _ => none)) (cr := noR) (tab_nil _) (noR_ok _) mixed (k := N + fs.length + 2) Try.func46 (look46 _) rfl (WP_mono (closed_wp _ _ _ _ N S F ss fs hw is his (by omega)) ?_)
  rintro u a o nx ⟨rfl, h⟩
  exact ⟨.inr rfl, h⟩
theorem look45 (X) : lookedAt (EX md0 X) (fun _ => none) 1 Try.f45 = true := by kernel_rfl
theorem list_ok (b : List Bool) (hb : b.length ≤ 100000) : Ok Try.prog 45 [slB b] (slI (idxs b)) := by
  refine ok_of_WP (E := EX md0 (fun _ _ => none)) (cr := noR) (tab_nil _) (noR_ok _) mixed (k := b.length + 1) Try.func45 (look45 _) rfl ?_
  simp only [Try.f45, Option.getD_some]
  simp (disch := omega) only [go_sem, ↓IntWalk.iteOmega, IntWalk.toNatUp, Nat.reduceEqDiff, Nat.reduceAdd, Nat.reduceMul, Nat.reduceSub, Nat.reduceLT, Nat.reduceLeDiff, Int.reduceToNat, Int.reduceLT, Int.reduceLE, Int.reduceEq, Int.reduceAdd, Int.reduceSub, Int.reduceMul, Int.toNat_natCast, reduceCtorEq, decide_true, decide_false, IntWalk.i64_in, IntWalk.u64_in, IntWalk.u8_in, begin_]
  refine WP_loop (fun m a o nx => ∃ i, i ≤ b.length ∧ m = b.length - i ∧ a 0 = slB b ∧ a 4 = .int .i64 i ∧ HS 3 1 18 o nx (a 3) (idxs (b.take i)).length (cI (idxs (b.take i)))) b.length ?_ ?_ ?_
  · omega
  · refine ⟨0, by omega, by omega, ?_⟩
    simp only [go_sem, ↓IntWalk.iteOmega, IntWalk.toNatUp, Nat.reduceEqDiff, Nat.reduceAdd, Nat.reduceMul, Nat.reduceSub, Nat.reduceLT, Nat.reduceLeDiff, Int.reduceToNat, Int.reduceLT, Int.reduceLE, Int.reduceEq, Int.reduceAdd, Int.reduceSub, Int.reduceMul, Int.toNat_natCast, reduceCtorEq, decide_true, decide_false, IntWalk.i64_in, IntWalk.u64_in, IntWalk.u8_in, List.take_zero]
    exact HS.nil
  · rintro m a o nx ⟨i, hi, rfl, h0, h4, hHS⟩
    by_cases hlt : i < b.length
    · have hgb := cB_get (s := 1) hlt
      have hsn := idxs_snoc hlt
      have hle := idxs_le (b.take i)
      rw [List.length_take] at hle
      generalize hv : a 3 = v at hHS
      cases hbi : b.getD i false with
      | true =>
        rw [hbi] at hgb hsn
        rw [if_pos rfl] at hsn
        rcases hHS with ⟨rfl, e2, e3⟩ | ⟨i1, g1, rfl, hi1, hrow, hlen⟩
        · simp (disch := omega) only [go_sem, ↓IntWalk.iteOmega, IntWalk.toNatUp, Nat.reduceEqDiff, Nat.reduceAdd, Nat.reduceMul, Nat.reduceSub, Nat.reduceLT, Nat.reduceLeDiff, Int.reduceToNat, Int.reduceLT, Int.reduceLE, Int.reduceEq, Int.reduceAdd, Int.reduceSub, Int.reduceMul, Int.toNat_natCast, reduceCtorEq, decide_true, decide_false, IntWalk.i64_in, IntWalk.u64_in, IntWalk.u8_in, h0, h4, hv, hgb, IntWalk.i64_in]
          have e4 : idxs (b.take i) = [] := List.length_eq_zero_iff.1 e2
          refine ⟨_, ?_, i + 1, by omega, rfl, rfl, .inr ⟨nx + 2, (nx + 2, 18), ?_, by omega, ?_, ?_⟩⟩
          · omega
          · rw [hsn, e4]; rfl
          · rw [hsn, e4]; simp [upd_app, cI]
          · rw [hsn, e4]; rfl
        · simp (disch := omega) only [go_sem, ↓IntWalk.iteOmega, IntWalk.toNatUp, Nat.reduceEqDiff, Nat.reduceAdd, Nat.reduceMul, Nat.reduceSub, Nat.reduceLT, Nat.reduceLeDiff, Int.reduceToNat, Int.reduceLT, Int.reduceLE, Int.reduceEq, Int.reduceAdd, Int.reduceSub, Int.reduceMul, Int.toNat_natCast, reduceCtorEq, decide_true, decide_false, IntWalk.i64_in, IntWalk.u64_in, IntWalk.u8_in, h0, h4, hv, hgb, hrow, IntWalk.i64_in]
          refine ⟨_, ?_, i + 1, by omega, rfl, rfl, .inr ⟨i1, (nx + 2, 18), ?_, by omega, ?_, ?_⟩⟩
          · omega
          · rw [hsn, List.length_append]; rfl
          · rw [hsn, cI_app]; simp [upd_app, cI]
          · rw [cI_length, Nat.mul_one]
      | false =>
        rw [hbi] at hgb hsn
        rw [if_neg (by simp), List.append_nil] at hsn
        simp (disch := omega) only [go_sem, ↓IntWalk.iteOmega, IntWalk.toNatUp, Nat.reduceEqDiff, Nat.reduceAdd, Nat.reduceMul, Nat.reduceSub, Nat.reduceLT, Nat.reduceLeDiff, Int.reduceToNat, Int.reduceLT, Int.reduceLE, Int.reduceEq, Int.reduceAdd, Int.reduceSub, Int.reduceMul, Int.toNat_natCast, reduceCtorEq, decide_true, decide_false, IntWalk.i64_in, IntWalk.u64_in, IntWalk.u8_in, h0, h4, hv, hgb, IntWalk.i64_in]
        exact ⟨_, by omega, i + 1, by omega, rfl, rfl, by rw [hsn]; exact hHS.keep (fun _ _ => rfl) (by omega)⟩
    · have hie : i = b.length := by omega
      rw [hie, List.take_length] at hHS
      have hvw := hHS.view 11
      rw [view_cI] at hvw
      simp (disch := omega) only [go_sem, ↓IntWalk.iteOmega, IntWalk.toNatUp, Nat.reduceEqDiff, Nat.reduceAdd, Nat.reduceMul, Nat.reduceSub, Nat.reduceLT, Nat.reduceLeDiff, Int.reduceToNat, Int.reduceLT, Int.reduceLE, Int.reduceEq, Int.reduceAdd, Int.reduceSub, Int.reduceMul, Int.toNat_natCast, reduceCtorEq, decide_true, decide_false, IntWalk.i64_in, IntWalk.u64_in, IntWalk.u8_in, h0, h4, IntWalk.i64_in]
      exact hvw
end Go.Proofs.Ytcaemgpificohaa.A
/- The document's Close, Begin, Step, Run: contracts. -/
namespace Go.Proofs.Ytcaemgpificohaa.A
open Go
set_option maxRecDepth 20000
/-! ### in -/
def R42 (args : List AV) (r : AV) : Prop := ∃ (N S F s : Int) (ss : List (Int × Int × Int)) (fs : List (Int × Int)), args = [nfaV N S F ss fs, .int .i64 s] ∧ r = .bool (decide (0 ≤ s ∧ s < N))
theorem R42_fn : Fun1 R42 := by
  rintro args r r' ⟨N, S, F, s, ss, fs, rfl, rfl⟩ ⟨N', S', F', s', ss', fs', h, rfl⟩
  simp only [nfaV, List.cons.injEq, AV.agg.injEq, AV.int.injEq, AV.sl.injEq, true_and, and_true] at h
  obtain ⟨⟨h1, _⟩, h2⟩ := h
  rw [h1, h2]
theorem look42 (X) : lookedAt (EX md0 X) (fun _ => none) 2 Try.f42 = true := by kernel_rfl
theorem in_ok (N S F s : Int) (ss fs) : Ok Try.prog 42 [nfaV N S F ss fs, .int .i64 s] (.bool (decide (0 ≤ s ∧ s < N))) := by
  refine ok_of_WP (E := EX md0 (fun _ _ => none)) (cr := noR) (tab_nil _) (noR_ok _) mixed (k := 0) Try.func42 (look42 _) rfl ?_
  simp only [Try.f42, Option.getD_some]
  by_cases h : 0 ≤ s
  · simp (disch := omega) only [go_sem, ↓IntWalk.iteOmega, IntWalk.toNatUp, Nat.reduceEqDiff, Nat.reduceAdd, Nat.reduceMul, Nat.reduceSub, Nat.reduceLT, Nat.reduceLeDiff, Int.reduceToNat, Int.reduceLT, Int.reduceLE, Int.reduceEq, Int.reduceAdd, Int.reduceSub, Int.reduceMul, Int.toNat_natCast, reduceCtorEq, decide_true, decide_false, IntWalk.i64_in, IntWalk.u64_in, IntWalk.u8_in]
  · simp (disch := omega) only [go_sem, ↓IntWalk.iteOmega, IntWalk.toNatUp, Nat.reduceEqDiff, Nat.reduceAdd, Nat.reduceMul, Nat.reduceSub, Nat.reduceLT, Nat.reduceLeDiff, Int.reduceToNat, Int.reduceLT, Int.reduceLE, Int.reduceEq, Int.reduceAdd, Int.reduceSub, Int.reduceMul, Int.toNat_natCast, reduceCtorEq, decide_true, decide_false, IntWalk.i64_in, IntWalk.u64_in, IntWalk.u8_in]
    rw [decide_eq_false (by omega)]
theorem R42_ok (args r) (h : R42 args r) : Ok Try.prog 42 args r := by
  obtain ⟨N, S, F, s, ss, fs, rfl, rfl⟩ := h
  exact in_ok N S F s ss fs
/-! ### closed, List as relations -/
theorem slB_inj {x y : List Bool} (h : slB x = slB y) : x = y := by
  unfold slB at h; injection h with _ h; exact cB_inj h
def R46 (args : List AV) (r : AV) : Prop := ∃ (N : Nat) (S F : Int) (ss : List (Int × Int × Int)) (fs : List (Int × Int)) (is : List Bool), Wf N S F ss fs ∧ is.length = N ∧ args = [nfaV N S F ss fs, slB is] ∧ r = slB (closeB N (rowsOf N fs) (idxs is))
theorem R46_fn : Fun1 R46 := by
  rintro args r r' ⟨N, S, F, ss, fs, is, _, _, rfl, rfl⟩ ⟨N', S', F', ss', fs', is', _, _, h, rfl⟩
  simp only [nfaV, List.cons.injEq, AV.agg.injEq, AV.int.injEq, AV.sl.injEq, true_and, and_true] at h
  obtain ⟨⟨h1, _, _, _, _, h2⟩, _, h3⟩ := h
  have h1 : N = N' := by omega
  rw [h1, cP_inj h2, cB_inj h3]
theorem R46_ok (args r) (h : R46 args r) : Ok Try.prog 46 args r := by
  obtain ⟨N, S, F, ss, fs, is, h1, h2, rfl, rfl⟩ := h
  exact closed_ok N S F ss fs h1 is h2
def R45 (args : List AV) (r : AV) : Prop := ∃ b : List Bool, b.length ≤ 100000 ∧ args = [slB b] ∧ r = slI (idxs b)
theorem R45_fn : Fun1 R45 := by
  rintro args r r' ⟨b, _, rfl, rfl⟩ ⟨b', _, h, rfl⟩
  simp only [List.cons.injEq, AV.sl.injEq, and_true] at h
  rw [cB_inj h.2]
theorem R45_ok (args r) (h : R45 args r) : Ok Try.prog 45 args r := by
  obtain ⟨b, h1, rfl, rfl⟩ := h
  exact list_ok b h1
theorem idxs_mem_marks {N : Nat} {l : List Int} (h : ∀ x ∈ l, 0 ≤ x ∧ x < (N : Int)) (s : Nat) : (s : Int) ∈ idxs (marks N l) ↔ (s : Int) ∈ l := by
  rw [mem_idxs, ← marks_get N l h s]
  exact ⟨fun ⟨t, ht, hb⟩ => by rwa [show s = t by omega], fun hb => ⟨s, rfl, hb⟩⟩
theorem close_marks {N : Nat} {rows : List (List Int)} {l : List Int} (h : ∀ x ∈ l, 0 ≤ x ∧ x < (N : Int)) : closeB N rows (idxs (marks N l)) = closeB N rows l := closeB_congr fun s _ => idxs_mem_marks h s

noncomputable def X29 : FuncId → List AV → Option AV := tabLook [(46, tRel R46), (45, tRel R45), (42, tRel R42)]
theorem X29_ok : CPSound Try.prog X29 := tab_cons (tab_cons (tab_cons (tab_nil _) (tRel_ok R42_ok)) (tRel_ok R45_ok)) (tRel_ok R46_ok)
theorem X29_46 {N : Nat} {S F : Int} {ss fs} (hw : Wf N S F ss fs) (is : List Bool) (h : is.length = N) : X29 46 [nfaV N S F ss fs, .sl N (cB is)] = some (slB (closeB N (rowsOf N fs) (idxs is))) := by
  show tRel R46 _ = _
  exact tRel_eq R46_fn ⟨N, S, F, ss, fs, is, hw, h, by rw [slB, h], rfl⟩
theorem X29_45 (b : List Bool) (h : b.length ≤ 100000) : X29 45 [slB b] = some (slI (idxs b)) := by
  show tRel R45 _ = _
  exact tRel_eq R45_fn ⟨b, h, rfl, rfl⟩
theorem X29_42 (N S F s : Int) (ss fs) : X29 42 [nfaV N S F ss fs, .int .i64 s] = some (.bool (decide (0 ≤ s ∧ s < N))) := by
  show tRel R42 _ = _
  exact tRel_eq R42_fn ⟨N, S, F, s, ss, fs, rfl, rfl⟩

/-! ### Close -/
def inN (N : Nat) (x : Int) : Bool := decide (0 ≤ x ∧ x < (N : Int))
theorem look29 (X) : lookedAt (EX md0 X) (fun _ => none) 2 Try.f29 = true := by kernel_rfl
theorem refClose_ok (N : Nat) (S F : Int) (ss) (fs : List (Int × Int)) (hw : Wf N S F ss fs) (l : List Int) (hl : l.length ≤ 900000) : Ok Try.prog 29 [nfaV N S F ss fs, slI l] (slI (idxs (closeB N (rowsOf N fs) l))) := by
  refine ok_of_WP (E := EX md0 X29) (cr := noR) X29_ok (noR_ok _) mixed (k := l.length + 1) Try.func29 (look29 _) rfl ?_
  have hN := hw.n
  have h46 := X29_46 hw
  have h45 := X29_45 (closeB N (rowsOf N fs) (idxs (marks N (l.filter (inN N))))) (by rw [closeB_length]; omega)
  have h42 := fun s => X29_42 N S F s ss fs
  simp only [Try.f29, Option.getD_some]
  simp (disch := omega) only [go_sem, ↓IntWalk.iteOmega, IntWalk.toNatUp, Nat.reduceEqDiff, Nat.reduceAdd, Nat.reduceMul, Nat.reduceSub, Nat.reduceLT, Nat.reduceLeDiff, Int.reduceToNat, Int.reduceLT, Int.reduceLE, Int.reduceEq, Int.reduceAdd, Int.reduceSub, Int.reduceMul, Int.toNat_natCast, reduceCtorEq, decide_true, decide_false, IntWalk.i64_in, IntWalk.u64_in, IntWalk.u8_in, rep_bool]
  refine WP_loop (fun m a o nx => ∃ i, i ≤ l.length ∧ m = l.length - i ∧ 2 ≤ nx ∧ a 1 = slI l ∧ a 2 = .ptr (0, 2) (0, 2) 0 ∧ a 5 = .ref (1, 9) (1, 9) 0 N ∧ a 6 = .int .i64 i ∧
    o (0, 2) = some (.row ⟨28, 1, (0, 2), false, true, [.int .i64 N, .int .i64 S, .int .i64 F, .sl ss.length (cS ss), .sl fs.length (cP fs)]⟩) ∧ o (1, 9) = some (.row ⟨4, 1, (1, 9), false, true, cB (marks N ((l.take i).filter (inN N)))⟩)) l.length ?_ ?_ ?_
  · omega
  · refine ⟨0, by omega, by omega, by omega, ?_⟩
    simp (disch := omega) only [go_sem, ↓IntWalk.iteOmega, IntWalk.toNatUp, Nat.reduceEqDiff, Nat.reduceAdd, Nat.reduceMul, Nat.reduceSub, Nat.reduceLT, Nat.reduceLeDiff, Int.reduceToNat, Int.reduceLT, Int.reduceLE, Int.reduceEq, Int.reduceAdd, Int.reduceSub, Int.reduceMul, Int.toNat_natCast, reduceCtorEq, decide_true, decide_false, IntWalk.i64_in, IntWalk.u64_in, IntWalk.u8_in, List.take_zero]
    rfl
  · rintro m a o nx ⟨i, hi, rfl, hnx, h1, h2, h5, h6, ho2, ho9⟩
    have hml := marks_length N ((l.take i).filter (inN N))
    by_cases hlt : i < l.length
    · have hg := cI_get (s := 1) hlt
      have htk := take_succ_getD hlt 0
      generalize l.getD i 0 = x at hg htk
      by_cases hx : 0 ≤ x ∧ x < (N : Int)
      · obtain ⟨x, rfl⟩ := Int.eq_ofNat_of_zero_le hx.1
        have hset := cB_set (marks N ((l.take i).filter (inN N))) x true (by omega)
        have hf : inN N (x : Int) = true := decide_eq_true hx
        simp (disch := omega) only [go_sem, ↓IntWalk.iteOmega, IntWalk.toNatUp, Nat.reduceEqDiff, Nat.reduceAdd, Nat.reduceMul, Nat.reduceSub, Nat.reduceLT, Nat.reduceLeDiff, Int.reduceToNat, Int.reduceLT, Int.reduceLE, Int.reduceEq, Int.reduceAdd, Int.reduceSub, Int.reduceMul, Int.toNat_natCast, reduceCtorEq, decide_true, decide_false, IntWalk.i64_in, IntWalk.u64_in, IntWalk.u8_in, h1, h2, h5, h6, ho2, ho9, hg, h42, hset, hml]
        refine ⟨_, ?_, i + 1, by omega, rfl, rfl, ?_⟩
        · omega
        · rw [htk, List.filter_append, List.filter_cons, hf, if_pos rfl, List.filter_nil, marks_snoc]; rfl
      · have hf : inN N x = false := decide_eq_false hx
        simp (disch := omega) only [go_sem, ↓IntWalk.iteOmega, IntWalk.toNatUp, Nat.reduceEqDiff, Nat.reduceAdd, Nat.reduceMul, Nat.reduceSub, Nat.reduceLT, Nat.reduceLeDiff, Int.reduceToNat, Int.reduceLT, Int.reduceLE, Int.reduceEq, Int.reduceAdd, Int.reduceSub, Int.reduceMul, Int.toNat_natCast, reduceCtorEq, decide_true, decide_false, IntWalk.i64_in, IntWalk.u64_in, IntWalk.u8_in, h1, h2, h5, h6, ho2, ho9, hg, h42]
        refine ⟨_, ?_, i + 1, by omega, rfl, rfl, ?_⟩
        · omega
        · rw [htk, List.filter_append, List.filter_cons, hf, if_neg (by simp), List.filter_nil, List.append_nil]
    · have hie : i = l.length := by omega
      rw [hie, List.take_length] at ho9 hml
      have h46' := h46 _ hml
      have hall : (cB (marks N (l.filter (inN N)))).take N = cB (marks N (l.filter (inN N))) := take_len (by rw [cB_length]; exact hml)
      simp (disch := omega) only [go_sem, ↓IntWalk.iteOmega, IntWalk.toNatUp, Nat.reduceEqDiff, Nat.reduceAdd, Nat.reduceMul, Nat.reduceSub, Nat.reduceLT, Nat.reduceLeDiff, Int.reduceToNat, Int.reduceLT, Int.reduceLE, Int.reduceEq, Int.reduceAdd, Int.reduceSub, Int.reduceMul, Int.toNat_natCast, reduceCtorEq, decide_true, decide_false, IntWalk.i64_in, IntWalk.u64_in, IntWalk.u8_in, h1, h2, h5, h6, ho2, ho9, h46', h45, hall, hml]
      have e : closeB N (rowsOf N fs) (idxs (marks N (l.filter (inN N)))) = closeB N (rowsOf N fs) l := by
        rw [close_marks (fun x hx => by have := (List.mem_filter.1 hx).2; simpa [inN] using this)]
        exact closeB_congr fun s hs => by
          rw [List.mem_filter]
          exact ⟨fun h => h.1, fun h => ⟨h, decide_eq_true (by omega)⟩⟩
      rw [e]

/-! ### Begin, Step, Run -/
theorem look43 (X) : lookedAt (EX md0 X) (fun _ => none) 1 Try.f43 = true := by kernel_rfl
theorem begin_ok (N : Nat) (S F : Int) (ss) (fs : List (Int × Int)) (hw : Wf N S F ss fs) : Ok Try.prog 43 [nfaV N S F ss fs] (slB (closeB N (rowsOf N fs) [S])) := by
  refine ok_of_WP (E := EX md0 X29) (cr := noR) X29_ok (noR_ok _) mixed (k := 0) Try.func43 (look43 _) rfl ?_
  have hN := hw.n
  have hS := hw.s
  obtain ⟨S, rfl⟩ := Int.eq_ofNat_of_zero_le hS.1
  have hset := cB_set (List.replicate N false) S true (by simp; omega)
  have hm : (List.replicate N false).set S true = marks N [(S : Int)] := rfl
  rw [hm] at hset
  have hml := marks_length N [(S : Int)]
  have h46 := X29_46 hw (marks N [(S : Int)]) hml
  have hall : (cB (marks N [(S : Int)])).take N = cB (marks N [(S : Int)]) := take_len (by rw [cB_length]; exact hml)
  rw [close_marks (fun x hx => by rw [List.mem_singleton.1 hx]; exact hS)] at h46
  simp only [Try.f43, Option.getD_some]
  simp (disch := omega) only [go_sem, ↓IntWalk.iteOmega, IntWalk.toNatUp, Nat.reduceEqDiff, Nat.reduceAdd, Nat.reduceMul, Nat.reduceSub, Nat.reduceLT, Nat.reduceLeDiff, Int.reduceToNat, Int.reduceLT, Int.reduceLE, Int.reduceEq, Int.reduceAdd, Int.reduceSub, Int.reduceMul, Int.toNat_natCast, reduceCtorEq, decide_true, decide_false, IntWalk.i64_in, IntWalk.u64_in, IntWalk.u8_in, rep_bool, hset, hml, h46, hall]
theorem look44 (X) : lookedAt (EX md0 X) (fun _ => none) 3 Try.f44 = true := by kernel_rfl
theorem step_ok (N : Nat) (S F : Int) (ss) (fs : List (Int × Int)) (hw : Wf N S F ss fs) (b : List Bool) (hb : b.length = N) (m : Int) : Ok Try.prog 44 [nfaV N S F ss fs, slB b, .int .i64 m] (slB (stepB N (rowsOf N fs) ss b m)) := by
  refine ok_of_WP (E := EX md0 X29) (cr := noR) X29_ok (noR_ok _) mixed (k := ss.length + 1) Try.func44 (look44 _) rfl ?_
  have hN := hw.n
  have hls := hw.ls
  have h46 := X29_46 hw
  simp only [Try.f44, Option.getD_some]
  simp (disch := omega) only [go_sem, ↓IntWalk.iteOmega, IntWalk.toNatUp, Nat.reduceEqDiff, Nat.reduceAdd, Nat.reduceMul, Nat.reduceSub, Nat.reduceLT, Nat.reduceLeDiff, Int.reduceToNat, Int.reduceLT, Int.reduceLE, Int.reduceEq, Int.reduceAdd, Int.reduceSub, Int.reduceMul, Int.toNat_natCast, reduceCtorEq, decide_true, decide_false, IntWalk.i64_in, IntWalk.u64_in, IntWalk.u8_in, rep_bool]
  refine WP_loop (fun v a o nx => ∃ i, i ≤ ss.length ∧ v = ss.length - i ∧ 2 ≤ nx ∧ a 1 = slB b ∧ a 2 = .int .i64 m ∧ a 3 = .ptr (0, 3) (0, 3) 0 ∧ a 7 = .ref (1, 12) (1, 12) 0 N ∧ a 8 = .int .i64 i ∧
    o (0, 3) = some (.row ⟨28, 1, (0, 3), false, true, [.int .i64 N, .int .i64 S, .int .i64 F, .sl ss.length (cS ss), .sl fs.length (cP fs)]⟩) ∧ o (1, 12) = some (.row ⟨4, 1, (1, 12), false, true, cB (marks N (nextOf (ss.take i) b m))⟩)) ss.length ?_ ?_ ?_
  · omega
  · refine ⟨0, by omega, by omega, by omega, ?_⟩
    simp (disch := omega) only [go_sem, ↓IntWalk.iteOmega, IntWalk.toNatUp, Nat.reduceEqDiff, Nat.reduceAdd, Nat.reduceMul, Nat.reduceSub, Nat.reduceLT, Nat.reduceLeDiff, Int.reduceToNat, Int.reduceLT, Int.reduceLE, Int.reduceEq, Int.reduceAdd, Int.reduceSub, Int.reduceMul, Int.toNat_natCast, reduceCtorEq, decide_true, decide_false, IntWalk.i64_in, IntWalk.u64_in, IntWalk.u8_in, List.take_zero]
    rfl
  · rintro v a o nx ⟨i, hi, rfl, hnx, h1, h2, h3, h7, h8, ho3, ho12⟩
    have hml := marks_length N (nextOf (ss.take i) b m)
    by_cases hlt : i < ss.length
    · have hat := cS_at hlt
      obtain ⟨⟨q1, q2⟩, q3, q4⟩ := hw.steps _ (getD_mem hlt (0, 0, 0))
      have htk := take_succ_getD hlt (0, 0, 0)
      generalize ss.getD i (0, 0, 0) = p at hat q1 q2 q3 q4 htk
      obtain ⟨f, t, set⟩ := p
      simp only at hat q1 q2 q3 q4
      obtain ⟨f, rfl⟩ := Int.eq_ofNat_of_zero_le q1
      obtain ⟨t, rfl⟩ := Int.eq_ofNat_of_zero_le q3
      have hgb := cB_get (s := 1) (show f < b.length by omega)
      have hsn : nextOf (ss.take (i + 1)) b m = nextOf (ss.take i) b m ++ (if leads b m (↑f, ↑t, set) then [(t : Int)] else []) := by rw [htk, nextOf_snoc]
      have hld : leads b m (↑f, ↑t, set) = (b.getD f false && (decide (0 ≤ m) && decide (m < 5) && hasMode set m)) := rfl
      have hset := cB_set (marks N (nextOf (ss.take i) b m)) t true (by omega)
      by_cases hm0 : 0 ≤ m
      · by_cases hm5 : m < 5
        · rw [decide_eq_true hm0, decide_eq_true hm5] at hld
          cases hbf : b.getD f false with
          | false =>
            rw [hbf] at hgb hld
            rw [hld] at hsn
            simp only [Bool.false_and, Bool.false_eq_true, if_false, List.append_nil] at hsn
            simp (disch := omega) only [go_sem, ↓IntWalk.iteOmega, IntWalk.toNatUp, Nat.reduceEqDiff, Nat.reduceAdd, Nat.reduceMul, Nat.reduceSub, Nat.reduceLT, Nat.reduceLeDiff, Int.reduceToNat, Int.reduceLT, Int.reduceLE, Int.reduceEq, Int.reduceAdd, Int.reduceSub, Int.reduceMul, Int.toNat_natCast, reduceCtorEq, decide_true, decide_false, IntWalk.i64_in, IntWalk.u64_in, IntWalk.u8_in, h1, h2, h3, h7, h8, ho3, ho12, hat, hgb]
            exact ⟨_, by omega, i + 1, by omega, rfl, rfl, by rw [hsn]⟩
          | true =>
            rw [hbf] at hgb hld
            rw [hld] at hsn
            cases hm : hasMode set m with
            | true =>
              rw [hm] at hsn
              simp only [hasMode, decide_eq_true_eq] at hm
              simp only [Bool.and_self, if_true] at hsn
              simp (disch := omega) only [go_sem, ↓IntWalk.iteOmega, IntWalk.toNatUp, Nat.reduceEqDiff, Nat.reduceAdd, Nat.reduceMul, Nat.reduceSub, Nat.reduceLT, Nat.reduceLeDiff, Int.reduceToNat, Int.reduceLT, Int.reduceLE, Int.reduceEq, Int.reduceAdd, Int.reduceSub, Int.reduceMul, Int.toNat_natCast, reduceCtorEq, decide_true, decide_false, IntWalk.i64_in, IntWalk.u64_in, IntWalk.u8_in, h1, h2, h3, h7, h8, ho3, ho12, hat, hgb, hm, hml, hset]
              exact ⟨_, by omega, i + 1, by omega, rfl, rfl, by rw [hsn, marks_snoc]; rfl⟩
            | false =>
              rw [hm] at hsn
              simp only [hasMode, decide_eq_false_iff_not] at hm
              simp only [Bool.and_self, Bool.and_false, Bool.false_eq_true, if_false, List.append_nil] at hsn
              simp (disch := omega) only [go_sem, ↓IntWalk.iteOmega, IntWalk.toNatUp, Nat.reduceEqDiff, Nat.reduceAdd, Nat.reduceMul, Nat.reduceSub, Nat.reduceLT, Nat.reduceLeDiff, Int.reduceToNat, Int.reduceLT, Int.reduceLE, Int.reduceEq, Int.reduceAdd, Int.reduceSub, Int.reduceMul, Int.toNat_natCast, reduceCtorEq, decide_true, decide_false, IntWalk.i64_in, IntWalk.u64_in, IntWalk.u8_in, h1, h2, h3, h7, h8, ho3, ho12, hat, hgb, hm]
              exact ⟨_, by omega, i + 1, by omega, rfl, rfl, by rw [hsn]⟩
        · rw [hld, decide_eq_false hm5] at hsn
          simp only [Bool.and_false, Bool.false_and, Bool.false_eq_true, if_false, List.append_nil] at hsn
          simp (disch := omega) only [go_sem, ↓IntWalk.iteOmega, IntWalk.toNatUp, Nat.reduceEqDiff, Nat.reduceAdd, Nat.reduceMul, Nat.reduceSub, Nat.reduceLT, Nat.reduceLeDiff, Int.reduceToNat, Int.reduceLT, Int.reduceLE, Int.reduceEq, Int.reduceAdd, Int.reduceSub, Int.reduceMul, Int.toNat_natCast, reduceCtorEq, decide_true, decide_false, IntWalk.i64_in, IntWalk.u64_in, IntWalk.u8_in, h1, h2, h3, h7, h8, ho3, ho12, hat]
          exact ⟨_, by omega, i + 1, by omega, rfl, rfl, by rw [hsn]⟩
      · rw [hld, decide_eq_false hm0] at hsn
        simp only [Bool.and_false, Bool.false_and, Bool.false_eq_true, if_false, List.append_nil] at hsn
        simp (disch := omega) only [go_sem, ↓IntWalk.iteOmega, IntWalk.toNatUp, Nat.reduceEqDiff, Nat.reduceAdd, Nat.reduceMul, Nat.reduceSub, Nat.reduceLT, Nat.reduceLeDiff, Int.reduceToNat, Int.reduceLT, Int.reduceLE, Int.reduceEq, Int.reduceAdd, Int.reduceSub, Int.reduceMul, Int.toNat_natCast, reduceCtorEq, decide_true, decide_false, IntWalk.i64_in, IntWalk.u64_in, IntWalk.u8_in, h1, h2, h3, h7, h8, ho3, ho12, hat]
        exact ⟨_, by omega, i + 1, by omega, rfl, rfl, by rw [hsn]⟩
    · have hie : i = ss.length := by omega
      rw [hie, List.take_length] at ho12 hml
      have hin : ∀ x ∈ nextOf ss b m, 0 ≤ x ∧ x < (N : Int) := fun x hx => by
        obtain ⟨p, hp, rfl⟩ := List.mem_map.1 hx
        exact (hw.steps p (List.mem_filter.1 hp).1).2
      have h46' := h46 _ hml
      rw [close_marks hin] at h46'
      have hall : (cB (marks N (nextOf ss b m))).take N = cB (marks N (nextOf ss b m)) := take_len (by rw [cB_length]; exact hml)
      simp (disch := omega) only [go_sem, ↓IntWalk.iteOmega, IntWalk.toNatUp, Nat.reduceEqDiff, Nat.reduceAdd, Nat.reduceMul, Nat.reduceSub, Nat.reduceLT, Nat.reduceLeDiff, Int.reduceToNat, Int.reduceLT, Int.reduceLE, Int.reduceEq, Int.reduceAdd, Int.reduceSub, Int.reduceMul, Int.toNat_natCast, reduceCtorEq, decide_true, decide_false, IntWalk.i64_in, IntWalk.u64_in, IntWalk.u8_in, h1, h2, h3, h7, h8, ho3, ho12, h46', hall, hml]
      rfl
end Go.Proofs.Ytcaemgpificohaa.A
/- Words of numbers. -/
namespace Go.Proofs.Ytcaemgpificohaa.A
open Go
set_option maxRecDepth 20000
/-! ### words -/
def wordOf (ns : List Int) (most few : Int) : List Int := (ns.take most.toNat).map fun x => x % (1 + few % 5)
theorem lookWord (X) : lookedAt (EX md0 X) (fun _ => none) 3 Try.f19 = true := by kernel_rfl
theorem word_ok (ns : List Int) (most few : Int) (hm : 0 ≤ most ∧ most ≤ 1000) : Ok Try.prog 19 [slI ns, .int .i64 most, .int .i64 few] (slI (wordOf ns most few)) := by
  obtain ⟨most, rfl⟩ := Int.eq_ofNat_of_zero_le hm.1
  refine ok_of_WP (E := EX md0 (tabLook [(37, tRel RW)])) (cr := noR) (tab_cons (tab_nil _) (tRel_ok within1_ok)) (noR_ok _) mixed (k := most + 1) Try.func19 (lookWord _) rfl ?_
  have h37 : ∀ a n : Int, 0 < n → n ≤ 1000000 → tabLook [(37, tRel RW)] 37 [.int .i64 a, .int .i64 n] = some (.int .i64 (a % n)) := fun a n h1 h2 => rw_eq h1 h2
  have hf0 := Int.emod_nonneg few (show (5 : Int) ≠ 0 by decide)
  have hf5 := Int.emod_lt_of_pos few (show (0 : Int) < 5 by decide)
  simp only [Try.f19, Option.getD_some]
  simp (disch := omega) only [go_sem, ↓IntWalk.iteOmega, IntWalk.toNatUp, Nat.reduceEqDiff, Nat.reduceAdd, Nat.reduceMul, Nat.reduceSub, Nat.reduceLT, Nat.reduceLeDiff, Int.reduceToNat, Int.reduceLT, Int.reduceLE, Int.reduceEq, Int.reduceAdd, Int.reduceSub, Int.reduceMul, Int.toNat_natCast, reduceCtorEq, decide_true, decide_false, IntWalk.i64_in, IntWalk.u64_in, IntWalk.u8_in]
  refine WP_loop (fun m a o nx => ∃ i, i ≤ ns.length ∧ i ≤ most ∧ m = most - i ∧ a 0 = slI ns ∧ a 1 = .int .i64 most ∧ a 2 = .int .i64 few ∧ a 8 = .int .i64 i ∧ HS 3 1 30 o nx (a 7) i (cI ((ns.take i).map fun x => x % (1 + few % 5)))) most ?_ ?_ ?_
  · omega
  · refine ⟨0, by omega, by omega, by omega, ?_⟩
    simp (disch := omega) only [go_sem, ↓IntWalk.iteOmega, IntWalk.toNatUp, Nat.reduceEqDiff, Nat.reduceAdd, Nat.reduceMul, Nat.reduceSub, Nat.reduceLT, Nat.reduceLeDiff, Int.reduceToNat, Int.reduceLT, Int.reduceLE, Int.reduceEq, Int.reduceAdd, Int.reduceSub, Int.reduceMul, Int.toNat_natCast, reduceCtorEq, decide_true, decide_false, IntWalk.i64_in, IntWalk.u64_in, IntWalk.u8_in, List.take_zero]
    exact HS.nil
  · rintro m a o nx ⟨i, hi, him, rfl, h0, h1, h2, h8, hHS⟩
    by_cases hlt : i < ns.length
    · by_cases hlm : i < most
      · have hg := cI_get (s := 1) hlt
        have htk := take_succ_getD hlt 0
        generalize ns.getD i 0 = x at hg htk
        generalize hv : a 7 = v at hHS
        rcases hHS with ⟨rfl, e2, e3⟩ | ⟨i1, g1, rfl, hi1, hrow, hlen⟩
        · simp (disch := omega) only [go_sem, ↓IntWalk.iteOmega, IntWalk.toNatUp, Nat.reduceEqDiff, Nat.reduceAdd, Nat.reduceMul, Nat.reduceSub, Nat.reduceLT, Nat.reduceLeDiff, Int.reduceToNat, Int.reduceLT, Int.reduceLE, Int.reduceEq, Int.reduceAdd, Int.reduceSub, Int.reduceMul, Int.toNat_natCast, reduceCtorEq, decide_true, decide_false, IntWalk.i64_in, IntWalk.u64_in, IntWalk.u8_in, h0, h1, h2, h8, hv, hg, h37]
          have e4 : (ns.take i).map (fun x => x % (1 + few % 5)) = [] := cI_inj e3
          refine ⟨_, ?_, i + 1, by omega, by omega, rfl, rfl, .inr ⟨nx + 1, (nx + 1, 30), ?_, by omega, ?_, ?_⟩⟩
          · omega
          · rw [e2]
          · rw [htk, List.map_append, e4]; simp [upd_app, cI]
          · rw [htk, List.map_append, e4, e2]; rfl
        · have hall : (cI ((ns.take i).map fun x => x % (1 + few % 5))).take i = cI ((ns.take i).map fun x => x % (1 + few % 5)) := take_len (by rw [hlen, Nat.mul_one])
          rw [Nat.mul_one] at hlen
          simp (disch := omega) only [go_sem, ↓IntWalk.iteOmega, IntWalk.toNatUp, Nat.reduceEqDiff, Nat.reduceAdd, Nat.reduceMul, Nat.reduceSub, Nat.reduceLT, Nat.reduceLeDiff, Int.reduceToNat, Int.reduceLT, Int.reduceLE, Int.reduceEq, Int.reduceAdd, Int.reduceSub, Int.reduceMul, Int.toNat_natCast, reduceCtorEq, decide_true, decide_false, IntWalk.i64_in, IntWalk.u64_in, IntWalk.u8_in, h0, h1, h2, h8, hv, hg, hrow, h37, hlen, hall]
          refine ⟨_, ?_, i + 1, by omega, by omega, rfl, rfl, .inr ⟨i1, (nx + 1, 30), rfl, by omega, ?_, ?_⟩⟩
          · omega
          · rw [htk, List.map_append, cI_app]; simp [upd_app, cI]
          · rw [htk, List.map_append, cI_app, List.length_append, hlen]; simp [cI]
      · have hie : i = most := by omega
        have hvw := hHS.view 11
        rw [view_cI] at hvw
        simp (disch := omega) only [go_sem, ↓IntWalk.iteOmega, IntWalk.toNatUp, Nat.reduceEqDiff, Nat.reduceAdd, Nat.reduceMul, Nat.reduceSub, Nat.reduceLT, Nat.reduceLeDiff, Int.reduceToNat, Int.reduceLT, Int.reduceLE, Int.reduceEq, Int.reduceAdd, Int.reduceSub, Int.reduceMul, Int.toNat_natCast, reduceCtorEq, decide_true, decide_false, IntWalk.i64_in, IntWalk.u64_in, IntWalk.u8_in, h0, h1, h2, h8, hvw]
        have e : ((ns.take i).map fun x => x % (1 + few % 5)) = wordOf ns most few := by rw [hie]; rfl
        rw [e]
        have : (wordOf ns most few).length = i := by rw [wordOf, List.length_map, List.length_take, Int.toNat_natCast]; omega
        rw [slI, this]
    · have hie : i = ns.length := by omega
      have hvw := hHS.view 11
      rw [view_cI] at hvw
      simp (disch := omega) only [go_sem, ↓IntWalk.iteOmega, IntWalk.toNatUp, Nat.reduceEqDiff, Nat.reduceAdd, Nat.reduceMul, Nat.reduceSub, Nat.reduceLT, Nat.reduceLeDiff, Int.reduceToNat, Int.reduceLT, Int.reduceLE, Int.reduceEq, Int.reduceAdd, Int.reduceSub, Int.reduceMul, Int.toNat_natCast, reduceCtorEq, decide_true, decide_false, IntWalk.i64_in, IntWalk.u64_in, IntWalk.u8_in, h0, h1, h2, h8, hvw]
      have e : ((ns.take i).map fun x => x % (1 + few % 5)) = wordOf ns most few := by rw [wordOf, Int.toNat_natCast, List.take_of_length_le (by omega), List.take_of_length_le (by omega)]
      rw [e]
      have : (wordOf ns most few).length = i := by rw [wordOf, List.length_map, List.length_take, Int.toNat_natCast]; omega
      rw [slI, this]

def RWord (args : List AV) (r : AV) : Prop := ∃ (ns : List Int) (most few : Int), (0 ≤ most ∧ most ≤ 1000) ∧ args = [slI ns, .int .i64 most, .int .i64 few] ∧ r = slI (wordOf ns most few)
theorem RWord_fn : Fun1 RWord := by
  rintro args r r' ⟨a, b, c, _, rfl, rfl⟩ ⟨a', b', c', _, h, rfl⟩
  simp only [List.cons.injEq, AV.int.injEq, AV.sl.injEq, true_and, and_true] at h
  obtain ⟨⟨_, h1⟩, h2, h3⟩ := h
  rw [cI_inj h1, h2, h3]
theorem RWord_ok (args r) (h : RWord args r) : Ok Try.prog 19 args r := by obtain ⟨a, b, c, h, rfl, rfl⟩ := h; exact word_ok a b c h
theorem wordOf_le (ns : List Int) (most few : Int) : (wordOf ns most few).length ≤ most.toNat := by rw [wordOf, List.length_map, List.length_take]; omega
end Go.Proofs.Ytcaemgpificohaa.A
/- The document's Run; words, rows held against each other: contracts. -/
namespace Go.Proofs.Ytcaemgpificohaa.A
open Go
set_option maxRecDepth 20000
/-! ### the document's Run -/
def R43 (args : List AV) (r : AV) : Prop := ∃ (N : Nat) (S F : Int) (ss : List (Int × Int × Int)) (fs : List (Int × Int)), Wf N S F ss fs ∧ args = [nfaV N S F ss fs] ∧ r = slB (closeB N (rowsOf N fs) [S])
theorem nfaV_inj {N S F N' S' F' : Int} {ss ss' : List (Int × Int × Int)} {fs fs' : List (Int × Int)} (h : nfaV N S F ss fs = nfaV N' S' F' ss' fs') : N = N' ∧ S = S' ∧ F = F' ∧ ss = ss' ∧ fs = fs' := by
  simp only [nfaV, List.cons.injEq, AV.agg.injEq, AV.int.injEq, AV.sl.injEq, true_and, and_true] at h
  obtain ⟨h1, h2, h3, ⟨_, h4⟩, _, h5⟩ := h
  exact ⟨h1, h2, h3, cS_inj h4, cP_inj h5⟩
theorem R43_fn : Fun1 R43 := by
  rintro args r r' ⟨N, S, F, ss, fs, _, rfl, rfl⟩ ⟨N', S', F', ss', fs', _, h, rfl⟩
  simp only [List.cons.injEq, and_true] at h
  obtain ⟨h1, h2, h3, h4, h5⟩ := nfaV_inj h
  have h1 : N = N' := by omega
  rw [h1, h2, h5]
theorem R43_ok (args r) (h : R43 args r) : Ok Try.prog 43 args r := by
  obtain ⟨N, S, F, ss, fs, h1, rfl, rfl⟩ := h
  exact begin_ok N S F ss fs h1
def R44 (args : List AV) (r : AV) : Prop := ∃ (N : Nat) (S F : Int) (ss : List (Int × Int × Int)) (fs : List (Int × Int)) (b : List Bool) (m : Int), Wf N S F ss fs ∧ b.length = N ∧ args = [nfaV N S F ss fs, slB b, .int .i64 m] ∧ r = slB (stepB N (rowsOf N fs) ss b m)
theorem R44_fn : Fun1 R44 := by
  rintro args r r' ⟨N, S, F, ss, fs, b, m, _, _, rfl, rfl⟩ ⟨N', S', F', ss', fs', b', m', _, _, h, rfl⟩
  simp only [List.cons.injEq, and_true, AV.int.injEq, true_and] at h
  obtain ⟨h1, h2, h3, h4, h5⟩ := nfaV_inj h.1
  have h1 : N = N' := by omega
  rw [h1, h4, h5, slB_inj h.2.1, h.2.2]
theorem R44_ok (args r) (h : R44 args r) : Ok Try.prog 44 args r := by
  obtain ⟨N, S, F, ss, fs, b, m, h1, h2, rfl, rfl⟩ := h
  exact step_ok N S F ss fs h1 b h2 m
noncomputable def X26 : FuncId → List AV → Option AV := tabLook [(43, tRel R43), (44, tRel R44)]
theorem X26_ok : CPSound Try.prog X26 := tab_cons (tab_cons (tab_nil _) (tRel_ok R44_ok)) (tRel_ok R43_ok)
theorem X26_43 {N : Nat} {S F : Int} {ss fs} (hw : Wf N S F ss fs) : X26 43 [nfaV N S F ss fs] = some (slB (closeB N (rowsOf N fs) [S])) := by
  show tRel R43 _ = _
  exact tRel_eq R43_fn ⟨N, S, F, ss, fs, hw, rfl, rfl⟩
theorem X26_44 {N : Nat} {S F : Int} {ss fs} (hw : Wf N S F ss fs) (b : List Bool) (hb : b.length = N) (m : Int) : X26 44 [nfaV N S F ss fs, slB b, .int .i64 m] = some (slB (stepB N (rowsOf N fs) ss b m)) := by
  show tRel R44 _ = _
  exact tRel_eq R44_fn ⟨N, S, F, ss, fs, b, m, hw, hb, rfl, rfl⟩
theorem look26 (X) : lookedAt (EX md0 X) (fun _ => none) 2 Try.f26 = true := by kernel_rfl
theorem refRun_ok (N : Nat) (S F : Int) (ss) (fs : List (Int × Int)) (hw : Wf N S F ss fs) (w : List Int) (hlw : w.length ≤ 1000000) : Ok Try.prog 26 [nfaV N S F ss fs, slI w] (.bool (runB N S F ss fs w)) := by
  refine ok_of_WP (E := EX md0 X26) (cr := noR) X26_ok (noR_ok _) mixed (k := w.length + 1) Try.func26 (look26 _) rfl ?_
  have h43 := X26_43 hw
  have hF := hw.f
  obtain ⟨F, rfl⟩ := Int.eq_ofNat_of_zero_le hF.1
  simp only [Try.f26, Option.getD_some]
  simp (disch := omega) only [go_sem, ↓IntWalk.iteOmega, IntWalk.toNatUp, Nat.reduceEqDiff, Nat.reduceAdd, Nat.reduceMul, Nat.reduceSub, Nat.reduceLT, Nat.reduceLeDiff, Int.reduceToNat, Int.reduceLT, Int.reduceLE, Int.reduceEq, Int.reduceAdd, Int.reduceSub, Int.reduceMul, Int.toNat_natCast, reduceCtorEq, decide_true, decide_false, IntWalk.i64_in, IntWalk.u64_in, IntWalk.u8_in, h43]
  refine WP_loop (fun m a o nx => ∃ i, i ≤ w.length ∧ m = w.length - i ∧ 2 ≤ nx ∧ a 1 = slI w ∧ a 2 = .ptr (0, 2) (0, 2) 0 ∧ a 5 = slB (setB N S ss fs (w.take i)) ∧ a 6 = .int .i64 i ∧
    o (0, 2) = some (.row ⟨28, 1, (0, 2), false, true, [.int .i64 N, .int .i64 S, .int .i64 F, .sl ss.length (cS ss), .sl fs.length (cP fs)]⟩)) w.length ?_ ?_ ?_
  · omega
  · refine ⟨0, by omega, by omega, by omega, ?_⟩
    simp (disch := omega) only [go_sem, ↓IntWalk.iteOmega, IntWalk.toNatUp, Nat.reduceEqDiff, Nat.reduceAdd, Nat.reduceMul, Nat.reduceSub, Nat.reduceLT, Nat.reduceLeDiff, Int.reduceToNat, Int.reduceLT, Int.reduceLE, Int.reduceEq, Int.reduceAdd, Int.reduceSub, Int.reduceMul, Int.toNat_natCast, reduceCtorEq, decide_true, decide_false, IntWalk.i64_in, IntWalk.u64_in, IntWalk.u8_in, List.take_zero]
    rfl
  · rintro m a o nx ⟨i, hi, rfl, hnx, h1, h2, h5, h6, ho2⟩
    by_cases hlt : i < w.length
    · have hg := cI_get (s := 1) hlt
      have htk := take_succ_getD hlt 0
      generalize w.getD i 0 = x at hg htk
      have h44 := X26_44 hw (setB N S ss fs (w.take i)) (setB_length _ _ _ _ _) x
      simp (disch := omega) only [go_sem, ↓IntWalk.iteOmega, IntWalk.toNatUp, Nat.reduceEqDiff, Nat.reduceAdd, Nat.reduceMul, Nat.reduceSub, Nat.reduceLT, Nat.reduceLeDiff, Int.reduceToNat, Int.reduceLT, Int.reduceLE, Int.reduceEq, Int.reduceAdd, Int.reduceSub, Int.reduceMul, Int.toNat_natCast, reduceCtorEq, decide_true, decide_false, IntWalk.i64_in, IntWalk.u64_in, IntWalk.u8_in, h1, h2, h5, h6, ho2, hg, h44]
      exact ⟨_, by omega, i + 1, by omega, rfl, by rw [htk, setB_snoc], rfl⟩
    · have hie : i = w.length := by omega
      rw [hie, List.take_length] at h5
      have hbl := setB_length N S ss fs w
      have hgb := cB_get (s := 1) (show F < (setB N S ss fs w).length by omega)
      simp (disch := omega) only [go_sem, ↓IntWalk.iteOmega, IntWalk.toNatUp, Nat.reduceEqDiff, Nat.reduceAdd, Nat.reduceMul, Nat.reduceSub, Nat.reduceLT, Nat.reduceLeDiff, Int.reduceToNat, Int.reduceLT, Int.reduceLE, Int.reduceEq, Int.reduceAdd, Int.reduceSub, Int.reduceMul, Int.toNat_natCast, reduceCtorEq, decide_true, decide_false, IntWalk.i64_in, IntWalk.u64_in, IntWalk.u8_in, h1, h2, h5, h6, ho2, hgb, hbl]
      rfl

/-! ### rows held against each other -/
theorem lookInts (X) : lookedAt (EX md0 X) (fun _ => none) 2 Try.f27 = true := by kernel_rfl
theorem ints_ok (x y : List Int) (hx : x.length ≤ 1000000) : Ok Try.prog 27 [slI x, slI y] (.bool (decide (x = y))) := by
  refine ok_of_WP (E := EX md0 (fun _ _ => none)) (cr := noR) (tab_nil _) (noR_ok _) mixed (k := x.length + 1) Try.func27 (lookInts _) rfl ?_
  simp only [Try.f27, Option.getD_some]
  by_cases hl : x.length = y.length
  · simp (disch := omega) only [go_sem, ↓IntWalk.iteOmega, IntWalk.toNatUp, Nat.reduceEqDiff, Nat.reduceAdd, Nat.reduceMul, Nat.reduceSub, Nat.reduceLT, Nat.reduceLeDiff, Int.reduceToNat, Int.reduceLT, Int.reduceLE, Int.reduceEq, Int.reduceAdd, Int.reduceSub, Int.reduceMul, Int.toNat_natCast, reduceCtorEq, decide_true, decide_false, IntWalk.i64_in, IntWalk.u64_in, IntWalk.u8_in]
    refine WP_loop (fun m a o nx => ∃ i, i ≤ x.length ∧ m = x.length - i ∧ a 0 = slI x ∧ a 1 = slI y ∧ a 5 = .int .i64 i ∧ x.take i = y.take i) x.length ?_ ?_ ?_
    · omega
    · refine ⟨0, by omega, by omega, ?_⟩
      simp (disch := omega) only [go_sem, ↓IntWalk.iteOmega, IntWalk.toNatUp, Nat.reduceEqDiff, Nat.reduceAdd, Nat.reduceMul, Nat.reduceSub, Nat.reduceLT, Nat.reduceLeDiff, Int.reduceToNat, Int.reduceLT, Int.reduceLE, Int.reduceEq, Int.reduceAdd, Int.reduceSub, Int.reduceMul, Int.toNat_natCast, reduceCtorEq, decide_true, decide_false, IntWalk.i64_in, IntWalk.u64_in, IntWalk.u8_in, List.take_zero]
    · rintro m a o nx ⟨i, hi, rfl, h0, h1, h5, hp⟩
      by_cases hlt : i < x.length
      · have hgx := cI_get (s := 1) hlt
        have hgy := cI_get (s := 1) (show i < y.length by omega)
        have hkx := take_succ_getD hlt 0
        have hky := take_succ_getD (show i < y.length by omega) 0
        by_cases he : x.getD i 0 = y.getD i 0
        · simp (disch := omega) only [go_sem, ↓IntWalk.iteOmega, IntWalk.toNatUp, Nat.reduceEqDiff, Nat.reduceAdd, Nat.reduceMul, Nat.reduceSub, Nat.reduceLT, Nat.reduceLeDiff, Int.reduceToNat, Int.reduceLT, Int.reduceLE, Int.reduceEq, Int.reduceAdd, Int.reduceSub, Int.reduceMul, Int.toNat_natCast, reduceCtorEq, decide_true, decide_false, IntWalk.i64_in, IntWalk.u64_in, IntWalk.u8_in, h0, h1, h5, hgx, hgy, he]
          exact ⟨_, by omega, i + 1, by omega, rfl, rfl, by rw [hkx, hky, hp, he]⟩
        · have hne : ¬ x = y := fun h => he (by rw [h])
          simp (disch := omega) only [go_sem, ↓IntWalk.iteOmega, IntWalk.toNatUp, Nat.reduceEqDiff, Nat.reduceAdd, Nat.reduceMul, Nat.reduceSub, Nat.reduceLT, Nat.reduceLeDiff, Int.reduceToNat, Int.reduceLT, Int.reduceLE, Int.reduceEq, Int.reduceAdd, Int.reduceSub, Int.reduceMul, Int.toNat_natCast, reduceCtorEq, decide_true, decide_false, IntWalk.i64_in, IntWalk.u64_in, IntWalk.u8_in, h0, h1, h5, hgx, hgy, he, hne]
      · have hie : i = x.length := by omega
        rw [hie, List.take_length, hl, List.take_length] at hp
        simp (disch := omega) only [go_sem, ↓IntWalk.iteOmega, IntWalk.toNatUp, Nat.reduceEqDiff, Nat.reduceAdd, Nat.reduceMul, Nat.reduceSub, Nat.reduceLT, Nat.reduceLeDiff, Int.reduceToNat, Int.reduceLT, Int.reduceLE, Int.reduceEq, Int.reduceAdd, Int.reduceSub, Int.reduceMul, Int.toNat_natCast, reduceCtorEq, decide_true, decide_false, IntWalk.i64_in, IntWalk.u64_in, IntWalk.u8_in, h0, h1, h5, hp]
  · have hne : ¬ x = y := fun h => hl (by rw [h])
    have hl' : ¬ (x.length : Int) = y.length := by omega
    simp (disch := omega) only [go_sem, ↓IntWalk.iteOmega, IntWalk.toNatUp, Nat.reduceEqDiff, Nat.reduceAdd, Nat.reduceMul, Nat.reduceSub, Nat.reduceLT, Nat.reduceLeDiff, Int.reduceToNat, Int.reduceLT, Int.reduceLE, Int.reduceEq, Int.reduceAdd, Int.reduceSub, Int.reduceMul, Int.toNat_natCast, reduceCtorEq, decide_true, decide_false, IntWalk.i64_in, IntWalk.u64_in, IntWalk.u8_in, hne]
end Go.Proofs.Ytcaemgpificohaa.A
/- Make: a machine out of numbers. -/
namespace Go.Proofs.Ytcaemgpificohaa.A
open Go
set_option maxRecDepth 20000
def isFree (k : Int) : Bool := decide (k % 3 = 0)
def freeOf' (N k : Int) : Int × Int := (IntKind.i64.wrap (k.tdiv 3) % N, IntKind.i64.wrap (k.tdiv 23) % N)
def stepOf' (N k : Int) : Int × Int × Int := (IntKind.i64.wrap (k.tdiv 3) % N, IntKind.i64.wrap (k.tdiv 23) % N, 1 + IntKind.i64.wrap (k.tdiv 170) % 31)
def freesOf (N : Int) (ns : List Int) : List (Int × Int) := (ns.filter isFree).map (freeOf' N)
def stepsOf (N : Int) (ns : List Int) : List (Int × Int × Int) := (ns.filter fun k => !isFree k).map (stepOf' N)
def sizeN (size : Int) : Nat := (1 + size % 7).toNat
theorem sizeN_eq (size : Int) : (sizeN size : Int) = 1 + size % 7 := by
  have := Int.emod_nonneg size (show (7 : Int) ≠ 0 by decide)
  unfold sizeN; omega
theorem sizeN_in (size : Int) : 1 ≤ sizeN size ∧ sizeN size ≤ 7 := by
  have := Int.emod_nonneg size (show (7 : Int) ≠ 0 by decide)
  have := Int.emod_lt_of_pos size (show (0 : Int) < 7 by decide)
  unfold sizeN; omega
theorem freesOf_snoc (N ns k) : freesOf N (ns ++ [k]) = freesOf N ns ++ (if isFree k then [freeOf' N k] else []) := by
  unfold freesOf
  rw [List.filter_append, List.map_append]
  congr 1
  cases h : isFree k <;> simp [h]
theorem stepsOf_snoc (N ns k) : stepsOf N (ns ++ [k]) = stepsOf N ns ++ (if isFree k then [] else [stepOf' N k]) := by
  unfold stepsOf
  rw [List.filter_append, List.map_append]
  congr 1
  cases h : isFree k <;> simp [h]
theorem freesOf_le (N ns) : (freesOf N ns).length ≤ ns.length := by unfold freesOf; rw [List.length_map]; exact List.length_filter_le _ _
theorem stepsOf_le (N ns) : (stepsOf N ns).length ≤ ns.length := by unfold stepsOf; rw [List.length_map]; exact List.length_filter_le _ _
/-- The machine that Make makes. -/
theorem make_wf (size : Int) (ns : List Int) (start end_ : Int) : Wf (sizeN size) (start % sizeN size) (end_ % sizeN size) (stepsOf (sizeN size) (ns.take 14)) (freesOf (sizeN size) (ns.take 14)) := by
  obtain ⟨h1, h2⟩ := sizeN_in size
  have hm : ∀ x : Int, 0 ≤ x % (sizeN size : Int) ∧ x % (sizeN size : Int) < sizeN size := fun x => ⟨Int.emod_nonneg _ (by omega), Int.emod_lt_of_pos _ (by omega)⟩
  have hl : (ns.take 14).length ≤ 14 := by rw [List.length_take]; omega
  refine ⟨by omega, hm _, hm _, ?_, ?_, fun p hp => ?_, fun p hp => ?_⟩
  · have := stepsOf_le (sizeN size) (ns.take 14); omega
  · have := freesOf_le (sizeN size) (ns.take 14); omega
  · obtain ⟨k, _, rfl⟩ := List.mem_map.1 hp
    exact ⟨hm _, hm _⟩
  · obtain ⟨k, _, rfl⟩ := List.mem_map.1 hp
    exact ⟨hm _, hm _⟩
def nz23' : Nat → Option (List (Nat × Nat))
  | 8 => some [(1, 13)]
  | 9 => some [(1, 17)]
  | _ => none
noncomputable def X23 : FuncId → List AV → Option AV := tabLook [(25, tRel RW)]
theorem X23_ok : CPSound Try.prog X23 := tab_cons (tab_nil _) (tRel_ok within0_ok)
theorem X23_eq (a n : Int) (h1 : 0 < n) (h2 : n ≤ 1000000) : X23 25 [.int .i64 a, .int .i64 n] = some (.int .i64 (a % n)) := rw_eq h1 h2
/-- What stands in memory behind it. -/
structure Made (o0 : Ob) (nx0 : Nat) (N : Nat) (S F : Int) (ss : List (Int × Int × Int)) (fs : List (Int × Int)) (vS vF : AV) (o : Ob) (nx : Nat) : Prop where
  le : nx0 ≤ nx
  s : HS 48 3 77 o nx vS ss.length (cS ss)
  f : HS 49 2 57 o nx vF fs.length (cP fs)
  keep : ∀ i j, i < nx0 → o (i, j) = o0 (i, j)
  ls : ∀ i g n, vS = .ref (i, 77) g 0 n → nx0 ≤ i
  lf : ∀ i g n, vF = .ref (i, 57) g 0 n → nx0 ≤ i
theorem make_wp (cr k) (size : Int) (ns : List Int) (start end_ : Int) (o0 : Ob) (nx0 : Nat) (hk : 15 < k) :
    WP (EX md0 X23) cr k nz23' (Try.f23.body.getD .skip) (begin_ [.int .i64 size, slI ns, .int .i64 start, .int .i64 end_]) o0 nx0 (fun u a o nx => u = .ret ∧ ∃ vS vF, Made o0 nx0 (sizeN size) (start % sizeN size) (end_ % sizeN size) (stepsOf (sizeN size) (ns.take 14)) (freesOf (sizeN size) (ns.take 14)) vS vF o nx ∧
      a 8 = .ptr (nx0, 8) (nx0, 8) 0 ∧ o (nx0, 8) = some (.row ⟨28, 1, (nx0, 8), false, true, [.int .i64 (sizeN size), .int .i64 (start % sizeN size), .int .i64 (end_ % sizeN size), vS, vF]⟩)) := by
  have hX := X23_eq
  obtain ⟨hN1, hN7⟩ := sizeN_in size
  have hsz := sizeN_eq size
  simp only [Try.f23, Option.getD_some]
  generalize sizeN size = N at hN1 hN7 hsz
  simp (disch := omega) only [go_sem, ↓IntWalk.iteOmega, IntWalk.toNatUp, Nat.reduceEqDiff, Nat.reduceAdd, Nat.reduceMul, Nat.reduceSub, Nat.reduceLT, Nat.reduceLeDiff, Int.reduceToNat, Int.reduceLT, Int.reduceLE, Int.reduceEq, Int.reduceAdd, Int.reduceSub, Int.reduceMul, Int.toNat_natCast, reduceCtorEq, decide_true, decide_false, IntWalk.i64_in, IntWalk.u64_in, IntWalk.u8_in, nz23', hX, hsz.symm]
  have hmS : ∀ x : Int, 0 ≤ x % (N : Int) ∧ x % (N : Int) < N := fun x => ⟨Int.emod_nonneg _ (by omega), Int.emod_lt_of_pos _ (by omega)⟩
  refine WP_loop (fun m a o nx => ∃ i vS vF, i ≤ ns.length ∧ i ≤ 14 ∧ m = 14 - i ∧ nx0 + 2 ≤ nx ∧ a 1 = slI ns ∧ a 8 = .ptr (nx0, 8) (nx0, 8) 0 ∧ a 9 = .ptr (nx0 + 1, 9) (nx0 + 1, 9) 0 ∧ a 10 = .int .i64 i ∧
    Made o0 nx0 N (start % N) (end_ % N) (stepsOf N (ns.take i)) (freesOf N (ns.take i)) vS vF o nx ∧ o (nx0 + 1, 9) = some (.row ⟨28, 1, (nx0 + 1, 9), false, true, [.int .i64 N, .int .i64 (start % N), .int .i64 (end_ % N), vS, vF]⟩) ∧
    o (nx0, 8) = some (.row ⟨28, 1, (nx0, 8), false, true, [.int .i64 0, .int .i64 0, .int .i64 0, .nil, .nil]⟩)) 14 ?_ ?_ ?_
  · omega
  · refine ⟨0, .nil, .nil, by omega, by omega, by omega, by omega, ?_⟩
    simp (disch := omega) only [go_sem, ↓IntWalk.iteOmega, IntWalk.toNatUp, Nat.reduceEqDiff, Nat.reduceAdd, Nat.reduceMul, Nat.reduceSub, Nat.reduceLT, Nat.reduceLeDiff, Int.reduceToNat, Int.reduceLT, Int.reduceLE, Int.reduceEq, Int.reduceAdd, Int.reduceSub, Int.reduceMul, Int.toNat_natCast, reduceCtorEq, decide_true, decide_false, IntWalk.i64_in, IntWalk.u64_in, IntWalk.u8_in, List.take_zero]
    exact ⟨by omega, HS.nil, HS.nil, fun i j h => by simp (disch := omega) only [upd_fst], fun i g n h => (by cases h), fun i g n h => (by cases h)⟩
  · rintro m a o nx ⟨i, vS, vF, hi, him, rfl, hnx, h1, h8, h9, h10, hM, ho9, ho8⟩
    obtain ⟨hle, hHS, hHF, hkeep, hls, hlf⟩ := hM
    have hokS := hHS.ok
    have hokF := hHF.ok
    by_cases hlt : i < ns.length
    · by_cases hlm : i < 14
      · have hg := cI_get (s := 1) hlt
        have htk := take_succ_getD hlt 0
        have hsl := stepsOf_le N (ns.take i)
        have hfl := freesOf_le N (ns.take i)
        rw [List.length_take] at hsl hfl
        generalize ns.getD i 0 = x at hg htk
        have hfs := freesOf_snoc N (ns.take i) x
        have hss := stepsOf_snoc N (ns.take i) x
        rw [← htk] at hfs hss
        by_cases hf : x % 3 = 0
        · have hfd : isFree x = true := decide_eq_true hf
          rw [hfd, if_pos rfl] at hfs hss
          rw [List.append_nil] at hss
          rcases hHF with ⟨rfl, e2, e3⟩ | ⟨i1, g1, rfl, hi1, hrow, hlen⟩
          · simp (disch := omega) only [go_sem, ↓IntWalk.iteOmega, IntWalk.toNatUp, Nat.reduceEqDiff, Nat.reduceAdd, Nat.reduceMul, Nat.reduceSub, Nat.reduceLT, Nat.reduceLeDiff, Int.reduceToNat, Int.reduceLT, Int.reduceLE, Int.reduceEq, Int.reduceAdd, Int.reduceSub, Int.reduceMul, Int.toNat_natCast, reduceCtorEq, decide_true, decide_false, IntWalk.i64_in, IntWalk.u64_in, IntWalk.u8_in, h1, h8, h9, h10, ho9, ho8, hg, hX, hf, nz23', hokS, hokF]
            refine ⟨_, ?_, i + 1, vS, _, by omega, by omega, rfl, by omega, rfl, ⟨by omega, by rw [hss]; exact hHS.keep (fun _ _ => by simp [upd_app]) (by omega), by rw [hfs, List.length_eq_zero_iff.1 e2]; exact .inr ⟨nx + 3, _, rfl, by omega, by simp [upd_app, cP, freeOf'], rfl⟩, fun i' j' h => ?_, hls, fun i' g' n' h => (by injection h with h; injection h with h; omega)⟩, rfl⟩
            · omega
            · rw [← hkeep i' j' h]; simp (disch := omega) only [upd_fst]
          · have hi1' := by first | exact hlf i1 _ _ rfl | exact hls i1 _ _ rfl
            simp (disch := omega) only [go_sem, ↓IntWalk.iteOmega, IntWalk.toNatUp, Nat.reduceEqDiff, Nat.reduceAdd, Nat.reduceMul, Nat.reduceSub, Nat.reduceLT, Nat.reduceLeDiff, Int.reduceToNat, Int.reduceLT, Int.reduceLE, Int.reduceEq, Int.reduceAdd, Int.reduceSub, Int.reduceMul, Int.toNat_natCast, reduceCtorEq, decide_true, decide_false, IntWalk.i64_in, IntWalk.u64_in, IntWalk.u8_in, h1, h8, h9, h10, ho9, ho8, hg, hX, hf, nz23', hokS, hokF, hrow]
            refine ⟨_, ?_, i + 1, vS, _, by omega, by omega, rfl, by omega, rfl, ⟨by omega, by rw [hss]; exact hHS.keep (fun _ _ => by simp [upd_app]) (by omega), by rw [hfs, List.length_append, cP_app]; exact .inr ⟨i1, _, rfl, by omega, by simp [upd_app, cP, freeOf'], by rw [List.length_append, cP_length]; simp [cP]; omega⟩, fun i' j' h => ?_, hls, fun i' g' n' h => (by injection h with h; injection h with h; omega)⟩, rfl⟩
            · omega
            · rw [← hkeep i' j' h]; simp (disch := omega) only [upd_fst]
        · have hfd : isFree x = false := decide_eq_false hf
          rw [hfd, if_neg (by simp)] at hfs hss
          rw [List.append_nil] at hfs
          rcases hHS with ⟨rfl, e2, e3⟩ | ⟨i1, g1, rfl, hi1, hrow, hlen⟩
          · simp (disch := omega) only [go_sem, ↓IntWalk.iteOmega, IntWalk.toNatUp, Nat.reduceEqDiff, Nat.reduceAdd, Nat.reduceMul, Nat.reduceSub, Nat.reduceLT, Nat.reduceLeDiff, Int.reduceToNat, Int.reduceLT, Int.reduceLE, Int.reduceEq, Int.reduceAdd, Int.reduceSub, Int.reduceMul, Int.toNat_natCast, reduceCtorEq, decide_true, decide_false, IntWalk.i64_in, IntWalk.u64_in, IntWalk.u8_in, h1, h8, h9, h10, ho9, ho8, hg, hX, hf, nz23', hokS, hokF]
            refine ⟨_, ?_, i + 1, _, vF, by omega, by omega, rfl, by omega, rfl, ⟨by omega, by rw [hss, List.length_eq_zero_iff.1 e2]; exact .inr ⟨nx + 3, _, rfl, by omega, by simp [upd_app, cS, stepOf'], rfl⟩, by rw [hfs]; exact hHF.keep (fun _ _ => by simp [upd_app]) (by omega), fun i' j' h => ?_, fun i' g' n' h => (by injection h with h; injection h with h; omega), hlf⟩, rfl⟩
            · omega
            · rw [← hkeep i' j' h]; simp (disch := omega) only [upd_fst]
          · have hi1' := by first | exact hlf i1 _ _ rfl | exact hls i1 _ _ rfl
            simp (disch := omega) only [go_sem, ↓IntWalk.iteOmega, IntWalk.toNatUp, Nat.reduceEqDiff, Nat.reduceAdd, Nat.reduceMul, Nat.reduceSub, Nat.reduceLT, Nat.reduceLeDiff, Int.reduceToNat, Int.reduceLT, Int.reduceLE, Int.reduceEq, Int.reduceAdd, Int.reduceSub, Int.reduceMul, Int.toNat_natCast, reduceCtorEq, decide_true, decide_false, IntWalk.i64_in, IntWalk.u64_in, IntWalk.u8_in, h1, h8, h9, h10, ho9, ho8, hg, hX, hf, nz23', hokS, hokF, hrow]
            refine ⟨_, ?_, i + 1, _, vF, by omega, by omega, rfl, by omega, rfl, ⟨by omega, by rw [hss, List.length_append, cS_app]; exact .inr ⟨i1, _, rfl, by omega, by simp [upd_app, cS, stepOf'], by rw [List.length_append, cS_length]; simp [cS]; omega⟩, by rw [hfs]; exact hHF.keep (fun _ _ => by simp [upd_app]) (by omega), fun i' j' h => ?_, fun i' g' n' h => (by injection h with h; injection h with h; omega), hlf⟩, rfl⟩
            · omega
            · rw [← hkeep i' j' h]; simp (disch := omega) only [upd_fst]
      · have hie : i = 14 := by omega
        rw [hie] at hHS hHF
        simp (disch := omega) only [go_sem, ↓IntWalk.iteOmega, IntWalk.toNatUp, Nat.reduceEqDiff, Nat.reduceAdd, Nat.reduceMul, Nat.reduceSub, Nat.reduceLT, Nat.reduceLeDiff, Int.reduceToNat, Int.reduceLT, Int.reduceLE, Int.reduceEq, Int.reduceAdd, Int.reduceSub, Int.reduceMul, Int.toNat_natCast, reduceCtorEq, decide_true, decide_false, IntWalk.i64_in, IntWalk.u64_in, IntWalk.u8_in, h1, h8, h9, h10, ho9, ho8, hokS, hokF]
        exact ⟨vS, vF, ⟨by omega, hHS.keep (fun _ _ => by simp [upd_app]) (by omega), hHF.keep (fun _ _ => by simp [upd_app]) (by omega), fun i' j' h => by rw [← hkeep i' j' h]; simp (disch := omega) only [upd_fst], hls, hlf⟩, rfl⟩
    · have e : ns.take i = ns.take 14 := by rw [List.take_of_length_le (by omega), List.take_of_length_le (by omega)]
      rw [e] at hHS hHF
      simp (disch := omega) only [go_sem, ↓IntWalk.iteOmega, IntWalk.toNatUp, Nat.reduceEqDiff, Nat.reduceAdd, Nat.reduceMul, Nat.reduceSub, Nat.reduceLT, Nat.reduceLeDiff, Int.reduceToNat, Int.reduceLT, Int.reduceLE, Int.reduceEq, Int.reduceAdd, Int.reduceSub, Int.reduceMul, Int.toNat_natCast, reduceCtorEq, decide_true, decide_false, IntWalk.i64_in, IntWalk.u64_in, IntWalk.u8_in, h1, h8, h9, h10, ho9, ho8, hokS, hokF]
      exact ⟨vS, vF, ⟨by omega, hHS.keep (fun _ _ => by simp [upd_app]) (by omega), hHF.keep (fun _ _ => by simp [upd_app]) (by omega), fun i' j' h => by rw [← hkeep i' j' h]; simp (disch := omega) only [upd_fst], hls, hlf⟩, rfl⟩
theorem look23 (X) : lookedAt (EX md0 X) nz23' 4 Try.f23 = true := by kernel_rfl
abbrev madeV (size : Int) (ns : List Int) (start end_ : Int) : AV := nfaV (sizeN size) (start % sizeN size) (end_ % sizeN size) (stepsOf (sizeN size) (ns.take 14)) (freesOf (sizeN size) (ns.take 14))
theorem make_ok (size : Int) (ns : List Int) (start end_ : Int) : Ok Try.prog 23 [.int .i64 size, slI ns, .int .i64 start, .int .i64 end_] (madeV size ns start end_) := by
  refine ok_of_WP (E := EX md0 X23) (cr := noR) X23_ok (noR_ok _) mixed (k := 16) Try.func23 (look23 _) rfl (WP_mono (make_wp _ _ size ns start end_ _ _ (by omega)) ?_)
  rintro u a o nx ⟨rfl, vS, vF, hM, h8, ho8⟩
  have v1 := hM.s.view 10
  have v2 := hM.f.view 10
  rw [view_cS] at v1
  rw [view_cP] at v2
  refine ⟨.inr rfl, ?_⟩
  simp only [Try.f23]
  simp (disch := omega) only [go_sem, ↓IntWalk.iteOmega, IntWalk.toNatUp, Nat.reduceEqDiff, Nat.reduceAdd, Nat.reduceMul, Nat.reduceSub, Nat.reduceLT, Nat.reduceLeDiff, Int.reduceToNat, Int.reduceLT, Int.reduceLE, Int.reduceEq, Int.reduceAdd, Int.reduceSub, Int.reduceMul, Int.toNat_natCast, reduceCtorEq, decide_true, decide_false, IntWalk.i64_in, IntWalk.u64_in, IntWalk.u8_in, h8, ho8, v1, v2]
end Go.Proofs.Ytcaemgpificohaa.A
/- law6's 'known' answers true: one run by the kernel. -/
namespace Go.Proofs.Ytcaemgpificohaa.A
open Go
/-- Which functions are called on data alone, in a run that is closed. -/
def mode0 (f : FuncId) : Mode := if f ∈ [14, 28, 38, 39] then .pure false else if f ∈ [18, 20, 36] then .pure true else .raw true
noncomputable def E0 : Env := { P := Try.prog, mode := mode0, ext := fun _ _ => none }
def nz0 : Nat → Option (List (Nat × Nat)) := fun _ => none
noncomputable def cr0 : CallR := (calls E0 60).2
theorem cr0_sound : CRSound Try.prog cr0 := (calls_sound E0 (tab_nil _) mixed 60).2
theorem cr0_up : Up cr0 := calls_nx E0 60
abbrev noP : CallP := fun _ _ => none

theorem known_run : (calls E0 60).1 12 [] = some (.bool true) := by kernel_rfl
theorem known_ok : Ok Try.prog 12 [] (.bool true) := ok_calls (E := E0) (tab_nil _) mixed known_run

end Go.Proofs.Ytcaemgpificohaa.A
/- The table of contracts for the machines' laws. -/
namespace Go.Proofs.Ytcaemgpificohaa.A
open Go
set_option maxRecDepth 20000
def RKnown (args : List AV) (r : AV) : Prop := args = [] ∧ r = .bool true
theorem RKnown_fn : Fun1 RKnown := by rintro args r r' ⟨_, rfl⟩ ⟨_, rfl⟩; rfl
theorem RKnown_ok (args r) (h : RKnown args r) : Ok Try.prog 12 args r := by obtain ⟨rfl, rfl⟩ := h; exact known_ok
def RMake (args : List AV) (r : AV) : Prop := ∃ (size : Int) (ns : List Int) (start end_ : Int), args = [.int .i64 size, slI ns, .int .i64 start, .int .i64 end_] ∧ r = madeV size ns start end_
theorem RMake_fn : Fun1 RMake := by
  rintro args r r' ⟨a, b, c, d, rfl, rfl⟩ ⟨a', b', c', d', h, rfl⟩
  simp only [List.cons.injEq, AV.int.injEq, AV.sl.injEq, true_and, and_true] at h
  obtain ⟨h1, ⟨_, h2⟩, h3, h4⟩ := h
  rw [h1, cI_inj h2, h3, h4]
theorem RMake_ok (args r) (h : RMake args r) : Ok Try.prog 23 args r := by obtain ⟨a, b, c, d, rfl, rfl⟩ := h; exact make_ok a b c d
def RInts (args : List AV) (r : AV) : Prop := ∃ x y : List Int, x.length ≤ 1000000 ∧ args = [slI x, slI y] ∧ r = .bool (decide (x = y))
theorem RInts_fn : Fun1 RInts := by
  rintro args r r' ⟨a, b, _, rfl, rfl⟩ ⟨a', b', _, h, rfl⟩
  simp only [List.cons.injEq, AV.sl.injEq, and_true] at h
  rw [cI_inj h.1.2, cI_inj h.2.2]
theorem RInts_ok (args r) (h : RInts args r) : Ok Try.prog 27 args r := by obtain ⟨a, b, h, rfl, rfl⟩ := h; exact ints_ok a b h
/-- Both runs. -/
def RRun (args : List AV) (r : AV) : Prop := ∃ (N : Nat) (S F : Int) (ss : List (Int × Int × Int)) (fs : List (Int × Int)) (w : List Int), Wf N S F ss fs ∧ w.length ≤ 1000000 ∧ args = [nfaV N S F ss fs, slI w] ∧ r = .bool (runB N S F ss fs w)
theorem RRun_fn : Fun1 RRun := by
  rintro args r r' ⟨N, S, F, ss, fs, w, _, _, rfl, rfl⟩ ⟨N', S', F', ss', fs', w', _, _, h, rfl⟩
  simp only [List.cons.injEq, and_true] at h
  obtain ⟨h1, h2, h3, h4, h5⟩ := nfaV_inj h.1
  have h1 : N = N' := by omega
  rw [h1, h2, h3, h4, h5, slI_inj h.2]
theorem RRun_nfa (args r) (h : RRun args r) : Ok Try.prog 20 args r := by obtain ⟨N, S, F, ss, fs, w, h1, h2, rfl, rfl⟩ := h; exact nfaRun_ok N S F ss fs h1 w h2
theorem RRun_ref (args r) (h : RRun args r) : Ok Try.prog 26 args r := by obtain ⟨N, S, F, ss, fs, w, h1, h2, rfl, rfl⟩ := h; exact refRun_ok N S F ss fs h1 w h2
/-- Both closures. -/
def RClose (args : List AV) (r : AV) : Prop := ∃ (N : Nat) (S F : Int) (ss : List (Int × Int × Int)) (fs : List (Int × Int)) (l : List Int), Wf N S F ss fs ∧ l.length ≤ 900000 ∧ args = [nfaV N S F ss fs, slI l] ∧ r = slI (idxs (closeB N (rowsOf N fs) l))
theorem RClose_fn : Fun1 RClose := by
  rintro args r r' ⟨N, S, F, ss, fs, w, _, _, rfl, rfl⟩ ⟨N', S', F', ss', fs', w', _, _, h, rfl⟩
  simp only [List.cons.injEq, and_true] at h
  obtain ⟨h1, h2, h3, h4, h5⟩ := nfaV_inj h.1
  have h1 : N = N' := by omega
  rw [h1, h5, slI_inj h.2]
theorem RClose_nfa (args r) (h : RClose args r) : Ok Try.prog 28 args r := by obtain ⟨N, S, F, ss, fs, w, h1, h2, rfl, rfl⟩ := h; exact nfaClose_ok N h1.n S F ss fs h1.lf (fun p hp => (h1.free p hp).1) w h2
theorem RClose_ref (args r) (h : RClose args r) : Ok Try.prog 29 args r := by obtain ⟨N, S, F, ss, fs, w, h1, h2, rfl, rfl⟩ := h; exact refClose_ok N S F ss fs h1 w h2

noncomputable def XL6 : FuncId → List AV → Option AV := tabLook [(12, tRel RKnown), (23, tRel RMake), (19, tRel RWord), (27, tRel RInts), (20, tRel RRun), (26, tRel RRun), (28, tRel RClose), (29, tRel RClose), (25, tRel RW)]
theorem XL6_ok : CPSound Try.prog XL6 := tab_cons (tab_cons (tab_cons (tab_cons (tab_cons (tab_cons (tab_cons (tab_cons (tab_cons (tab_nil _) (tRel_ok within0_ok)) (tRel_ok RClose_ref)) (tRel_ok RClose_nfa)) (tRel_ok RRun_ref)) (tRel_ok RRun_nfa)) (tRel_ok RInts_ok)) (tRel_ok RWord_ok)) (tRel_ok RMake_ok)) (tRel_ok RKnown_ok)
theorem XL6_known : XL6 12 [] = some (.bool true) := tRel_eq (R := RKnown) RKnown_fn ⟨rfl, rfl⟩
theorem XL6_make (size : Int) (ns : List Int) (start end_ : Int) : XL6 23 [.int .i64 size, slI ns, .int .i64 start, .int .i64 end_] = some (madeV size ns start end_) := tRel_eq (R := RMake) RMake_fn ⟨_, _, _, _, rfl, rfl⟩
theorem XL6_word (ns : List Int) (most few : Int) (h : 0 ≤ most ∧ most ≤ 1000) : XL6 19 [slI ns, .int .i64 most, .int .i64 few] = some (slI (wordOf ns most few)) := tRel_eq (R := RWord) RWord_fn ⟨_, _, _, h, rfl, rfl⟩
theorem XL6_ints (x y : List Int) (h : x.length ≤ 1000000) : XL6 27 [slI x, slI y] = some (.bool (decide (x = y))) := tRel_eq (R := RInts) RInts_fn ⟨_, _, h, rfl, rfl⟩
theorem XL6_nrun {N : Nat} {S F : Int} {ss fs} (hw : Wf N S F ss fs) (w : List Int) (h : w.length ≤ 1000000) : XL6 20 [nfaV N S F ss fs, slI w] = some (.bool (runB N S F ss fs w)) := tRel_eq (R := RRun) RRun_fn ⟨_, _, _, _, _, _, hw, h, rfl, rfl⟩
theorem XL6_rrun {N : Nat} {S F : Int} {ss fs} (hw : Wf N S F ss fs) (w : List Int) (h : w.length ≤ 1000000) : XL6 26 [nfaV N S F ss fs, slI w] = some (.bool (runB N S F ss fs w)) := tRel_eq (R := RRun) RRun_fn ⟨_, _, _, _, _, _, hw, h, rfl, rfl⟩
theorem XL6_nclose {N : Nat} {S F : Int} {ss fs} (hw : Wf N S F ss fs) (l : List Int) (h : l.length ≤ 900000) : XL6 28 [nfaV N S F ss fs, slI l] = some (slI (idxs (closeB N (rowsOf N fs) l))) := tRel_eq (R := RClose) RClose_fn ⟨_, _, _, _, _, _, hw, h, rfl, rfl⟩
theorem XL6_rclose {N : Nat} {S F : Int} {ss fs} (hw : Wf N S F ss fs) (l : List Int) (h : l.length ≤ 900000) : XL6 29 [nfaV N S F ss fs, slI l] = some (slI (idxs (closeB N (rowsOf N fs) l))) := tRel_eq (R := RClose) RClose_fn ⟨_, _, _, _, _, _, hw, h, rfl, rfl⟩
theorem XL6_within (a n : Int) (h1 : 0 < n) (h2 : n ≤ 1000000) : XL6 25 [.int .i64 a, .int .i64 n] = some (.int .i64 (a % n)) := rw_eq h1 h2
end Go.Proofs.Ytcaemgpificohaa.A
