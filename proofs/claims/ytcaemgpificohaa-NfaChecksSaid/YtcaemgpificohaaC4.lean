/- The document's closure: closed, List. -/
import Derived.Test.YtcaemgpificohaaC3
set_option linter.unusedVariables false
set_option linter.unusedSimpArgs false
set_option linter.unnecessarySimpa false
namespace Go.Proofs.Ytcaemgpificohaa.A
open Go
set_option maxRecDepth 20000
theorem rowsOf_mem {N : Nat} {fs : List (Int × Int)} (hin : ∀ p ∈ fs, 0 ≤ p.1 ∧ p.1 < (N : Int)) {j : Nat} (hj : j < N) (x : Int) : x ∈ (rowsOf N fs).getD j [] ↔ ((j : Int), x) ∈ fs := by
  have key : ∀ (l : List (Int × Int)) (rows : List (List Int)), rows.length = N → (∀ p ∈ l, 0 ≤ p.1 ∧ p.1 < (N : Int)) → (x ∈ (l.foldl rowAdd rows).getD j [] ↔ x ∈ rows.getD j [] ∨ ((j : Int), x) ∈ l) := fun l => by
    induction l with
    | nil => intro rows _ _; simp
    | cons p l ih =>
      intro rows hl hp
      have hp0 := hp p (List.mem_cons_self ..)
      rw [List.foldl_cons, ih _ (by simpa [rowAdd] using hl) (fun q hq => hp q (List.mem_cons_of_mem _ hq)), rowAdd, getD_set _ _ _ _ _ (by omega), List.mem_cons]
      obtain ⟨f, t⟩ := p
      simp only at hp0 ⊢
      by_cases e : f.toNat = j
      · have : f = (j : Int) := by omega
        subst this
        rw [if_pos e, Int.toNat_natCast, List.mem_append, List.mem_singleton]
        simp only [Prod.mk.injEq, true_and]
        exact or_assoc
      · rw [if_neg e]
        have : ¬ ((j : Int), x) = (f, t) := fun h => by injection h with h _; omega
        simp [this]
  have h0 : (List.replicate N ([] : List Int)).getD j [] = [] := by simp [List.getD, List.getElem?_replicate, hj]
  have := key fs (List.replicate N []) (by simp) hin
  rw [h0] at this
  simpa [rowsOf] using this
theorem Rch.mono {N rows l l'} (h : ∀ s : Nat, (s : Int) ∈ l → s < N → (s : Int) ∈ l') {s} (hr : Rch N rows l s) : Rch N rows l' s := by
  induction hr with
  | base s hm hs => exact .base s (h s hm hs) hs
  | step s t _ hm ht ih => exact .step s t ih hm ht
theorem closeB_congr {N rows l l'} (h : ∀ s : Nat, s < N → ((s : Int) ∈ l ↔ (s : Int) ∈ l')) : closeB N rows l = closeB N rows l' := by
  refine closeB_unique (closeB_length _ _ _) fun s => ?_
  rw [closeB_get]
  exact ⟨Rch.mono fun s hm hs => (h s hs).1 hm, Rch.mono fun s hm hs => (h s hs).2 hm⟩
def falses (b : List Bool) : Nat := ((List.range b.length).map fun s => if b.getD s false then 0 else 1).sum
theorem falses_set {b : List Bool} {s : Nat} (hs : s < b.length) (hb : b.getD s false = false) : falses (b.set s true) + 1 = falses b := by
  unfold falses
  rw [List.length_set]
  have := sum_map_one b.length s hs (fun x => if (b.set s true).getD x false then 0 else 1) (fun x => if b.getD x false then 0 else 1) (fun x hx => by
    rw [getD_set _ _ _ _ _ hs, if_neg (show ¬ s = x from fun hc => hx hc.symm)])
  rw [hb, getD_set _ _ _ _ _ hs, if_pos rfl] at this
  rw [if_neg (by simp), if_pos rfl] at this
  omega
theorem falses_idxs (b : List Bool) : falses b + (idxs b).length = b.length := by
  have key : ∀ n, ((List.range n).map fun s => if b.getD s false then 0 else 1).sum + (((List.range n).map fun s => if b.getD s false then [(s : Int)] else []).flatten).length = n := fun n => by
    induction n with
    | zero => rfl
    | succ n ih =>
      rw [List.range_succ, List.map_append, List.map_append, List.sum_append, List.flatten_append, List.length_append]
      have : ([n].map fun s => if b.getD s false then 0 else 1).sum + (([n].map fun s => if b.getD s false then [(s : Int)] else []).flatten).length = 1 := by
        simp only [List.map_cons, List.map_nil, List.sum_cons, List.sum_nil, List.flatten_cons, List.flatten_nil]
        cases b.getD n false <;> rfl
      omega
  exact key b.length
/-- Between two rounds of the search. -/
structure Bfs (N : Nat) (rows : List (List Int)) (src : List Int) (b : List Bool) (l : List Int) (i : Nat) : Prop where
  len : b.length = N
  cnt : falses b + l.length = N
  mark : ∀ s : Nat, b.getD s false = true ↔ (s : Int) ∈ l
  ok : ∀ x ∈ l, 0 ≤ x ∧ x < (N : Int)
  sound : ∀ s, b.getD s false = true → Rch N rows src s
  base : ∀ s : Nat, (s : Int) ∈ src → s < N → b.getD s false = true
  done : ∀ s : Nat, (s : Int) ∈ l.take i → ∀ t : Nat, (t : Int) ∈ rows.getD s [] → b.getD t false = true
theorem Bfs.start (rows) (b : List Bool) : Bfs b.length rows (idxs b) b (idxs b) 0 :=
  ⟨rfl, falses_idxs b, fun s => by rw [mem_idxs]; exact ⟨fun h => ⟨s, rfl, h⟩, fun ⟨t, ht, h⟩ => by rwa [show s = t by omega]⟩, fun x hx => idxs_in hx,
    fun s h => .base s (mem_idxs.2 ⟨s, rfl, h⟩) (by by_cases hs : s < b.length; · exact hs
                                                    · rw [List.getD, List.getElem?_eq_none (by omega)] at h; cases h),
    fun s hm _ => by obtain ⟨t, ht, h⟩ := mem_idxs.1 hm; rwa [show s = t by omega], fun s hm => by simp at hm⟩
theorem Bfs.finish {N rows src b l} (h : Bfs N rows src b l l.length) : b = closeB N rows src := by
  refine closeB_unique h.len fun s => ⟨h.sound s, fun hr => ?_⟩
  induction hr with
  | base s hm hs => exact h.base s hm hs
  | step s t _ hm ht ih => exact h.done s (by rw [List.take_length]; exact (h.mark s).1 ih) t hm
theorem Bfs.add {N rows src b l i} (h : Bfs N rows src b l i) (hi : i < l.length) {s t : Nat} (hs : l.getD i 0 = s) (ht : t < N) (hm : (t : Int) ∈ rows.getD s []) (hb : b.getD t false = false) : Bfs N rows src (b.set t true) (l ++ [(t : Int)]) i := by
  have htl : t < b.length := by rw [h.len]; exact ht
  have hg : ∀ u, (b.set t true).getD u false = true ↔ u = t ∨ b.getD u false = true := fun u => by
    rw [getD_set _ _ _ _ _ htl]
    by_cases e : t = u
    · simp [e]
    · rw [if_neg e]; simp [show ¬ u = t from fun hc => e hc.symm]
  have hsl : (s : Int) ∈ l := by rw [← hs]; exact getD_mem hi 0
  refine ⟨by simpa using h.len, ?_, fun u => ?_, fun x hx => ?_, fun u hu => ?_, fun u hu hn => (hg u).2 (.inr (h.base u hu hn)), fun u hu v hv => ?_⟩
  · have := falses_set htl hb
    have := h.cnt
    rw [List.length_append, List.length_singleton]; omega
  · rw [hg, List.mem_append, List.mem_singleton, h.mark]
    constructor
    · rintro (rfl | h)
      · exact .inr rfl
      · exact .inl h
    · rintro (h | h)
      · exact .inr h
      · exact .inl (by omega)
  · rcases List.mem_append.1 hx with hx | hx
    · exact h.ok x hx
    · rw [List.mem_singleton.1 hx]; omega
  · rcases (hg u).1 hu with rfl | hu
    · exact .step s u (h.sound s ((h.mark s).2 hsl)) hm ht
    · exact h.sound u hu
  · rw [List.take_append_of_le_length (by omega)] at hu
    exact (hg v).2 (.inr (h.done u hu v hv))
theorem Bfs.next {N rows src b l i} (h : Bfs N rows src b l i) (hi : i < l.length) {s : Nat} (hs : l.getD i 0 = s) (hd : ∀ t : Nat, (t : Int) ∈ rows.getD s [] → b.getD t false = true) : Bfs N rows src b l (i + 1) :=
  ⟨h.len, h.cnt, h.mark, h.ok, h.sound, h.base, fun u hu t ht => by
    rw [take_succ_getD hi 0, hs, List.mem_append, List.mem_singleton] at hu
    rcases hu with hu | hu
    · exact h.done u hu t ht
    · rw [show u = s by omega] at ht; exact hd t ht⟩
def nz46 : Nat → Option (List (Nat × Nat))
  | 13 => some [(2, 10), (5, 10), (7, 10), (2, 11)]
  | _ => none
theorem closed_wp (md X cr k) (N : Nat) (S F : Int) (ss fs) (hw : Wf N S F ss fs) (is : List Bool) (his : is.length = N) (hk : N + fs.length + 1 < k) :
    WP (EX md X) cr k nz46 (Try.f46.body.getD .skip) (begin_ [nfaV N S F ss fs, slB is]) (fun _ => none) 0 (fun u a o nx => u = .ret ∧ A.view o vDepth (a 4) = slB (closeB N (rowsOf N fs) (idxs is))) := by
  have hN := hw.n
  have hlf := hw.lf
  simp only [Try.f46, Option.getD_some]
  have hz : ([] : List AV).length = 0 := rfl
  simp (disch := omega) only [go_sem, ↓IntWalk.iteOmega, IntWalk.toNatUp, Nat.reduceEqDiff, Nat.reduceAdd, Nat.reduceMul, Nat.reduceSub, Nat.reduceLT, Nat.reduceLeDiff, Int.reduceToNat, Int.reduceLT, Int.reduceLE, Int.reduceEq, Int.reduceAdd, Int.reduceSub, Int.reduceMul, Int.toNat_natCast, reduceCtorEq, decide_true, decide_false, IntWalk.i64_in, IntWalk.u64_in, IntWalk.u8_in, begin_, nz46, his]
  refine WP_loop (fun m a o nx => ∃ i, i ≤ N ∧ m = N - i ∧ 4 ≤ nx ∧ a 2 = .ptr (0, 2) (0, 2) 0 ∧ a 5 = .ref (1, 14) (1, 16) 0 N ∧ a 7 = .int .i64 i ∧ HS 3 1 30 o nx (a 6) (idxs (is.take i)).length (cI (idxs (is.take i))) ∧
    o (0, 2) = some (.row ⟨28, 1, (0, 2), false, true, [.int .i64 N, .int .i64 S, .int .i64 F, .sl ss.length (cS ss), .sl fs.length (cP fs)]⟩) ∧ o (1, 14) = some (.row ⟨4, 1, (1, 16), false, true, cB is⟩)) N ?_ ?_ ?_
  · omega
  · refine ⟨0, by omega, by omega, ?_⟩
    simp only [go_sem, ↓IntWalk.iteOmega, IntWalk.toNatUp, Nat.reduceEqDiff, Nat.reduceAdd, Nat.reduceMul, Nat.reduceSub, Nat.reduceLT, Nat.reduceLeDiff, Int.reduceToNat, Int.reduceLT, Int.reduceLE, Int.reduceEq, Int.reduceAdd, Int.reduceSub, Int.reduceMul, Int.toNat_natCast, reduceCtorEq, decide_true, decide_false, IntWalk.i64_in, IntWalk.u64_in, IntWalk.u8_in, List.take_zero]
    exact HS.nil
  · rintro m a o nx ⟨i, hi, rfl, hnx, h2, h5, h7, hHS, ho2, ho14⟩
    by_cases hlt : i < N
    · have hgb := cB_get (s := 1) (show i < is.length by omega)
      have hsn := idxs_snoc (show i < is.length by omega)
      have hle := idxs_le (is.take i)
      rw [List.length_take] at hle
      generalize hv : a 6 = v at hHS
      cases hb : is.getD i false with
      | true =>
        rw [hb] at hgb hsn
        rw [if_pos rfl] at hsn
        rcases hHS with ⟨rfl, e2, e3⟩ | ⟨i1, g1, rfl, hi1, hrow, hlen⟩
        · simp (disch := omega) only [go_sem, ↓IntWalk.iteOmega, IntWalk.toNatUp, Nat.reduceEqDiff, Nat.reduceAdd, Nat.reduceMul, Nat.reduceSub, Nat.reduceLT, Nat.reduceLeDiff, Int.reduceToNat, Int.reduceLT, Int.reduceLE, Int.reduceEq, Int.reduceAdd, Int.reduceSub, Int.reduceMul, Int.toNat_natCast, reduceCtorEq, decide_true, decide_false, IntWalk.i64_in, IntWalk.u64_in, IntWalk.u8_in, h2, h5, hv, h7, ho2, ho14, hgb, IntWalk.i64_in]
          have e4 : idxs (is.take i) = [] := List.length_eq_zero_iff.1 e2
          refine ⟨_, ?_, i + 1, by omega, rfl, rfl, .inr ⟨nx + 2, (nx + 2, 30), ?_, by omega, ?_, ?_⟩⟩
          · omega
          · rw [hsn, e4]; rfl
          · rw [hsn, e4]; simp [upd_app, cI]
          · rw [hsn, e4]; rfl
        · simp (disch := omega) only [go_sem, ↓IntWalk.iteOmega, IntWalk.toNatUp, Nat.reduceEqDiff, Nat.reduceAdd, Nat.reduceMul, Nat.reduceSub, Nat.reduceLT, Nat.reduceLeDiff, Int.reduceToNat, Int.reduceLT, Int.reduceLE, Int.reduceEq, Int.reduceAdd, Int.reduceSub, Int.reduceMul, Int.toNat_natCast, reduceCtorEq, decide_true, decide_false, IntWalk.i64_in, IntWalk.u64_in, IntWalk.u8_in, h2, h5, hv, h7, ho2, ho14, hgb, hrow, IntWalk.i64_in]
          refine ⟨_, ?_, i + 1, by omega, rfl, rfl, .inr ⟨i1, (nx + 2, 30), ?_, by omega, ?_, ?_⟩⟩
          · omega
          · rw [hsn, List.length_append]; rfl
          · rw [hsn, cI_app]; simp [upd_app, cI]
          · rw [cI_length, Nat.mul_one]
      | false =>
        rw [hb] at hgb hsn
        rw [if_neg (by simp), List.append_nil] at hsn
        simp (disch := omega) only [go_sem, ↓IntWalk.iteOmega, IntWalk.toNatUp, Nat.reduceEqDiff, Nat.reduceAdd, Nat.reduceMul, Nat.reduceSub, Nat.reduceLT, Nat.reduceLeDiff, Int.reduceToNat, Int.reduceLT, Int.reduceLE, Int.reduceEq, Int.reduceAdd, Int.reduceSub, Int.reduceMul, Int.toNat_natCast, reduceCtorEq, decide_true, decide_false, IntWalk.i64_in, IntWalk.u64_in, IntWalk.u8_in, h2, h5, hv, h7, ho2, ho14, hgb, IntWalk.i64_in]
        exact ⟨_, by omega, i + 1, by omega, rfl, by omega, rfl, by rw [hsn]; exact hHS.keep (fun _ _ => rfl) (by omega)⟩
    · have hie : i = N := by omega
      rw [hie, ← his, List.take_length] at hHS
      simp (disch := omega) only [go_sem, ↓IntWalk.iteOmega, IntWalk.toNatUp, Nat.reduceEqDiff, Nat.reduceAdd, Nat.reduceMul, Nat.reduceSub, Nat.reduceLT, Nat.reduceLeDiff, Int.reduceToNat, Int.reduceLT, Int.reduceLE, Int.reduceEq, Int.reduceAdd, Int.reduceSub, Int.reduceMul, Int.toNat_natCast, reduceCtorEq, decide_true, decide_false, IntWalk.i64_in, IntWalk.u64_in, IntWalk.u8_in, h2, h5, h7, ho2, ho14, rep_one, IntWalk.i64_in]
      refine WP_loop (fun m a o nx' => ∃ i cs, i ≤ fs.length ∧ m = fs.length - i ∧ NI 57 o nx' cs (rowsOf N (fs.take i)) ∧ nx + 3 ≤ nx' ∧ a 2 = .ptr (0, 2) (0, 2) 0 ∧ a 5 = .ref (1, 14) (1, 16) 0 N ∧ a 8 = .ref (nx + 1, 33) (nx + 1, 33) 0 N ∧ a 9 = .int .i64 i ∧ HS 3 1 30 o nx' (a 6) (idxs is).length (cI (idxs is)) ∧
        o (0, 2) = some (.row ⟨28, 1, (0, 2), false, true, [.int .i64 N, .int .i64 S, .int .i64 F, .sl ss.length (cS ss), .sl fs.length (cP fs)]⟩) ∧ o (1, 14) = some (.row ⟨4, 1, (1, 16), false, true, cB is⟩) ∧ o (nx + 1, 33) = some (.row ⟨40, 1, (nx + 1, 33), false, true, cs⟩)) fs.length ?_ ?_ ?_
      · omega
      · refine ⟨0, List.replicate N .nil, by omega, by omega, NI.start _ _ _ N, by omega, ?_⟩
        simp only [go_sem, ↓IntWalk.iteOmega, IntWalk.toNatUp, Nat.reduceEqDiff, Nat.reduceAdd, Nat.reduceMul, Nat.reduceSub, Nat.reduceLT, Nat.reduceLeDiff, Int.reduceToNat, Int.reduceLT, Int.reduceLE, Int.reduceEq, Int.reduceAdd, Int.reduceSub, Int.reduceMul, Int.toNat_natCast, reduceCtorEq, decide_true, decide_false, IntWalk.i64_in, IntWalk.u64_in, IntWalk.u8_in, h2, h5, ho2, ho14]
        exact hHS.keep (fun _ _ => by simp [upd_app]) (by omega)
      · clear h2 h5 h7 ho2 ho14 hHS hie
        rintro m a o nx' ⟨i, cs, hi, rfl, hNI, hnx', h2, h5, h8, h9, hHS, ho2, ho14, ho33⟩
        by_cases hlt : i < fs.length
        · obtain ⟨⟨hf0, hfN⟩, _⟩ := hw.free _ (getD_mem hlt (0, 0))
          have hat := cP_at hlt
          have htake := take_succ_getD hlt (0, 0)
          generalize fs.getD i (0, 0) = f at hf0 hfN hat htake
          obtain ⟨f, t⟩ := f
          simp only at hf0 hfN hat htake
          obtain ⟨j, rfl⟩ := Int.eq_ofNat_of_zero_le hf0
          have hrl := rowsOf_length N (fs.take i)
          have hcl : cs.length = N := by rw [hNI.1, hrl]
          have hjN : j < cs.length := by omega
          have hH := hNI.2.1 j (by omega)
          have hget := cs_get (s := 1) hjN
          have hspl : ∀ v, splice cs j [v] = cs.set j v := fun v => splice_eq cs j v hjN
          have hnext : rowsOf N (fs.take (i + 1)) = (rowsOf N (fs.take i)).set j ((rowsOf N (fs.take i)).getD j [] ++ [t]) := by rw [htake, rowsOf_snoc]; rfl
          have hjr : j < (rowsOf N (fs.take i)).length := by omega
          generalize hv : cs.getD j .nil = v at hH hget
          have hle := rowsOf_le N (fs.take i) j
          have hlt' : (fs.take i).length ≤ fs.length := by rw [List.length_take]; omega
          generalize (rowsOf N (fs.take i)).getD j [] = r at *
          rcases hH with ⟨rfl, e2, e3⟩ | ⟨i1, g, rfl, hi1, hrow, hlen⟩
          · simp (disch := omega) only [go_sem, ↓IntWalk.iteOmega, IntWalk.toNatUp, Nat.reduceEqDiff, Nat.reduceAdd, Nat.reduceMul, Nat.reduceSub, Nat.reduceLT, Nat.reduceLeDiff, Int.reduceToNat, Int.reduceLT, Int.reduceLE, Int.reduceEq, Int.reduceAdd, Int.reduceSub, Int.reduceMul, Int.toNat_natCast, reduceCtorEq, decide_true, decide_false, IntWalk.i64_in, IntWalk.u64_in, IntWalk.u8_in, nz46, h2, h5, h8, h9, ho2, ho14, ho33, hat, hget, hspl, IntWalk.i64_in]
            have e4 : r = [] := List.length_eq_zero_iff.1 e2
            refine ⟨_, ?_, i + 1, _, by omega, rfl, ?_, by omega, rfl, ?_, rfl⟩
            · omega
            · rw [hnext, e4]
              exact NI.set (l := [t]) hNI hjr rfl (by omega) (by omega) (.inl ⟨hv, by omega⟩) (fun i' _ h => by simp [upd_app, h]) (by simp [upd_app, cI])
            · exact hHS.keep (fun _ _ => by simp [upd_app]) (by omega)
          · simp (disch := omega) only [go_sem, ↓IntWalk.iteOmega, IntWalk.toNatUp, Nat.reduceEqDiff, Nat.reduceAdd, Nat.reduceMul, Nat.reduceSub, Nat.reduceLT, Nat.reduceLeDiff, Int.reduceToNat, Int.reduceLT, Int.reduceLE, Int.reduceEq, Int.reduceAdd, Int.reduceSub, Int.reduceMul, Int.toNat_natCast, reduceCtorEq, decide_true, decide_false, IntWalk.i64_in, IntWalk.u64_in, IntWalk.u8_in, nz46, h2, h5, h8, h9, ho2, ho14, ho33, hat, hget, hrow, hspl, IntWalk.i64_in]
            refine ⟨_, ?_, i + 1, _, by omega, rfl, ?_, by omega, rfl, ?_, rfl⟩
            · omega
            · rw [hnext]
              exact NI.set (l := r ++ [t]) hNI hjr (by simp) (by omega) (by omega) (.inr ⟨_, _, hv⟩) (fun i' _ h => by simp [upd_app, h]) (by simp [upd_app, cI])
            · exact hHS.keep (fun _ _ => by simp [upd_app]) (by omega)
        · have e : i = fs.length := by omega
          subst e
          rw [List.take_length] at hNI
          have hrl := rowsOf_length N fs
          have hcl : cs.length = N := by rw [hNI.1, hrl]
          have hrows := fun j (hj : j < N) x => rowsOf_mem (fs := fs) (fun p hp => (hw.free p hp).1) hj x
          have hrle := rowsOf_le N fs
          generalize rowsOf N fs = rows at *
          generalize hv : a 6 = v at hHS
          simp (disch := omega) only [go_sem, ↓IntWalk.iteOmega, IntWalk.toNatUp, Nat.reduceEqDiff, Nat.reduceAdd, Nat.reduceMul, Nat.reduceSub, Nat.reduceLT, Nat.reduceLeDiff, Int.reduceToNat, Int.reduceLT, Int.reduceLE, Int.reduceEq, Int.reduceAdd, Int.reduceSub, Int.reduceMul, Int.toNat_natCast, reduceCtorEq, decide_true, decide_false, IntWalk.i64_in, IntWalk.u64_in, IntWalk.u8_in, h2, h5, h8, h9, ho2, ho14, ho33, hv, IntWalk.i64_in]
          refine WP_loop (fun m a o nx'' => ∃ i b g l, Bfs N rows (idxs is) b l i ∧ i ≤ l.length ∧ m = N - i ∧ NI 57 o nx'' cs rows ∧ nx + 3 ≤ nx'' ∧ a 2 = .ptr (0, 2) (0, 2) 0 ∧ a 5 = .ref (1, 14) g 0 N ∧ a 8 = .ref (nx + 1, 33) (nx + 1, 33) 0 N ∧ a 11 = .int .i64 i ∧ HS 3 1 30 o nx'' (a 6) l.length (cI l) ∧
            o (1, 14) = some (.row ⟨4, 1, g, false, true, cB b⟩) ∧ o (nx + 1, 33) = some (.row ⟨40, 1, (nx + 1, 33), false, true, cs⟩)) N ?_ ?_ ?_
          · omega
          · refine ⟨0, is, (1, 16), idxs is, by rw [← his]; exact Bfs.start rows is, by omega, by omega, hNI.keep (fun _ _ => rfl) (by omega), by omega, ?_⟩
            simp only [go_sem, ↓IntWalk.iteOmega, IntWalk.toNatUp, Nat.reduceEqDiff, Nat.reduceAdd, Nat.reduceMul, Nat.reduceSub, Nat.reduceLT, Nat.reduceLeDiff, Int.reduceToNat, Int.reduceLT, Int.reduceLE, Int.reduceEq, Int.reduceAdd, Int.reduceSub, Int.reduceMul, Int.toNat_natCast, reduceCtorEq, decide_true, decide_false, IntWalk.i64_in, IntWalk.u64_in, IntWalk.u8_in, h2, h5, h8, ho14, ho33, hv]
            exact hHS.keep (fun _ _ => rfl) (by omega)
          · clear h2 h5 h8 h9 ho2 ho14 ho33 hHS hv hNI
            rintro m a o nx'' ⟨i, b, g, l, hB, hi, rfl, hNI, hnx'', h2, h5, h8, h11, hHS, ho14, ho33⟩
            have hlN : l.length ≤ N := by have := hB.cnt; omega
            by_cases hlt : i < l.length
            · generalize hv : a 6 = v at hHS
              have hHS' := hHS
              rcases hHS with ⟨_, e2, _⟩ | ⟨i1, g1, rfl, hi1, hrow, hlen⟩
              · omega
              obtain ⟨hs0, hsN⟩ := hB.ok _ (getD_mem hlt 0)
              obtain ⟨s, hs⟩ := Int.eq_ofNat_of_zero_le hs0
              have hsN : s < N := by omega
              simp (disch := omega) only [go_sem, ↓IntWalk.iteOmega, IntWalk.toNatUp, Nat.reduceEqDiff, Nat.reduceAdd, Nat.reduceMul, Nat.reduceSub, Nat.reduceLT, Nat.reduceLeDiff, Int.reduceToNat, Int.reduceLT, Int.reduceLE, Int.reduceEq, Int.reduceAdd, Int.reduceSub, Int.reduceMul, Int.toNat_natCast, reduceCtorEq, decide_true, decide_false, IntWalk.i64_in, IntWalk.u64_in, IntWalk.u8_in, h2, h5, h8, h11, ho14, ho33, hv, hrow, IntWalk.i64_in]
              refine WP_loop (fun m a o nx'' => ∃ j b g l, Bfs N rows (idxs is) b l i ∧ i < l.length ∧ l.getD i 0 = s ∧ j ≤ (rows.getD s []).length ∧ (∀ t : Nat, (t : Int) ∈ (rows.getD s []).take j → b.getD t false = true) ∧ m = (rows.getD s []).length - j ∧ NI 57 o nx'' cs rows ∧ nx + 3 ≤ nx'' ∧ a 2 = .ptr (0, 2) (0, 2) 0 ∧ a 5 = .ref (1, 14) g 0 N ∧ a 8 = .ref (nx + 1, 33) (nx + 1, 33) 0 N ∧ a 11 = .int .i64 i ∧ a 12 = .int .i64 j ∧ HS 3 1 30 o nx'' (a 6) l.length (cI l) ∧
                o (1, 14) = some (.row ⟨4, 1, g, false, true, cB b⟩) ∧ o (nx + 1, 33) = some (.row ⟨40, 1, (nx + 1, 33), false, true, cs⟩)) (rows.getD s []).length ?_ ?_ ?_
              · have := hrle s; omega
              · refine ⟨0, b, g, l, hB, hlt, hs, by omega, fun t ht => by simp at ht, by omega, hNI.keep (fun _ _ => rfl) (by omega), by omega, ?_⟩
                simp only [go_sem, ↓IntWalk.iteOmega, IntWalk.toNatUp, Nat.reduceEqDiff, Nat.reduceAdd, Nat.reduceMul, Nat.reduceSub, Nat.reduceLT, Nat.reduceLeDiff, Int.reduceToNat, Int.reduceLT, Int.reduceLE, Int.reduceEq, Int.reduceAdd, Int.reduceSub, Int.reduceMul, Int.toNat_natCast, reduceCtorEq, decide_true, decide_false, IntWalk.i64_in, IntWalk.u64_in, IntWalk.u8_in, h2, h5, h8, h11, ho14, ho33, hv]
                exact hHS'.keep (fun _ _ => rfl) (by omega)
              · clear h2 h5 h8 h11 ho14 ho33 hHS' hv hNI hrow hlen
                rintro m a o nx'' ⟨j, b, g, l, hB, hlt, hs, hj, hdn, rfl, hNI, hnx'', h2, h5, h8, h11, h12, hHS, ho14, ho33⟩
                have hlN : l.length ≤ N := by have := hB.cnt; omega
                have hbl := hB.len
                generalize hv : a 6 = v at hHS
                have hHS' := hHS
                rcases hHS with ⟨_, e2, _⟩ | ⟨i1, g1, rfl, hi1, hrow, hlen⟩
                · omega
                have hgl := cI_get (s := 1) hlt
                rw [hs] at hgl
                have hrs := hrle s
                have hH := hNI.2.1 s (by omega)
                have hget := cs_get (s := 1) (show s < cs.length by omega)
                generalize hv2 : cs.getD s .nil = v2 at hH hget
                rcases hH with ⟨rfl, e2, e3⟩ | ⟨i2, g2, rfl, hi2, hrow2, hlen2⟩
                · have : j = 0 := by omega
                  subst this
                  simp (disch := omega) only [go_sem, ↓IntWalk.iteOmega, IntWalk.toNatUp, Nat.reduceEqDiff, Nat.reduceAdd, Nat.reduceMul, Nat.reduceSub, Nat.reduceLT, Nat.reduceLeDiff, Int.reduceToNat, Int.reduceLT, Int.reduceLE, Int.reduceEq, Int.reduceAdd, Int.reduceSub, Int.reduceMul, Int.toNat_natCast, reduceCtorEq, decide_true, decide_false, IntWalk.i64_in, IntWalk.u64_in, IntWalk.u8_in, h2, h5, h8, h11, h12, ho14, ho33, hv, hrow, hgl, hget, IntWalk.i64_in]
                  have e4 : rows.getD s [] = [] := List.length_eq_zero_iff.1 e2
                  exact ⟨_, by omega, i + 1, b, g, l, hB.next hlt hs (fun t ht => by rw [e4] at ht; cases ht), by omega, rfl, hNI.keep (fun _ _ => rfl) (by omega), by omega, rfl, rfl, hHS'.keep (fun _ _ => rfl) (by omega), rfl⟩
                · by_cases hjl : j < (rows.getD s []).length
                  · have hgr := cI_get (s := 1) hjl
                    have htk := take_succ_getD hjl 0
                    have hmem := getD_mem hjl 0
                    have hmem2 := (hrows s hsN _).1 hmem
                    obtain ⟨_, ht0, htN⟩ := hw.free _ hmem2
                    obtain ⟨t, ht⟩ := Int.eq_ofNat_of_zero_le ht0
                    simp only at ht htN
                    rw [ht] at hgr htk hmem htN
                    have htN : t < N := by omega
                    have hgb := cB_get (s := 1) (show t < b.length by omega)
                    cases hbt : b.getD t false with
                    | true =>
                      rw [hbt] at hgb
                      simp (disch := omega) only [go_sem, ↓IntWalk.iteOmega, IntWalk.toNatUp, Nat.reduceEqDiff, Nat.reduceAdd, Nat.reduceMul, Nat.reduceSub, Nat.reduceLT, Nat.reduceLeDiff, Int.reduceToNat, Int.reduceLT, Int.reduceLE, Int.reduceEq, Int.reduceAdd, Int.reduceSub, Int.reduceMul, Int.toNat_natCast, reduceCtorEq, decide_true, decide_false, IntWalk.i64_in, IntWalk.u64_in, IntWalk.u8_in, h2, h5, h8, h11, h12, ho14, ho33, hv, hrow, hrow2, hgl, hget, hgr, hgb, IntWalk.i64_in]
                      refine ⟨_, ?_, j + 1, b, g, l, hB, hlt, hs, by omega, fun u hu => ?_, rfl, hNI.keep (fun _ _ => rfl) (by omega), by omega, rfl, rfl, hHS'.keep (fun _ _ => rfl) (by omega), rfl⟩
                      · omega
                      · rw [htk, List.mem_append, List.mem_singleton] at hu
                        rcases hu with hu | hu
                        · exact hdn u hu
                        · rw [show u = t by omega]; exact hbt
                    | false =>
                      rw [hbt] at hgb
                      have hset := cB_set b t true (by omega)
                      simp (disch := omega) only [go_sem, ↓IntWalk.iteOmega, IntWalk.toNatUp, Nat.reduceEqDiff, Nat.reduceAdd, Nat.reduceMul, Nat.reduceSub, Nat.reduceLT, Nat.reduceLeDiff, Int.reduceToNat, Int.reduceLT, Int.reduceLE, Int.reduceEq, Int.reduceAdd, Int.reduceSub, Int.reduceMul, Int.toNat_natCast, reduceCtorEq, decide_true, decide_false, IntWalk.i64_in, IntWalk.u64_in, IntWalk.u8_in, h2, h5, h8, h11, h12, ho14, ho33, hv, hrow, hrow2, hgl, hget, hgr, hgb, hset, IntWalk.i64_in]
                      have hgl' : (l ++ [(t : Int)]).getD i 0 = s := by rw [← hs]; simp [List.getD, List.getElem?_append_left hlt]
                      refine ⟨_, ?_, j + 1, b.set t true, g, l ++ [(t : Int)], hB.add hlt hs htN hmem hbt, by rw [List.length_append]; omega, hgl', by omega, fun u hu => ?_, rfl, hNI.keep (fun _ _ => by simp [upd_app]) (by omega), by omega, rfl, rfl, .inr ⟨i1, (nx'' + 4, 98), by rw [List.length_append]; rfl, by omega, ?_, by rw [cI_length, Nat.mul_one]⟩, rfl⟩
                      · omega
                      · rw [getD_set _ _ _ _ _ (by omega)]
                        split
                        · rfl
                        · rename_i hne
                          rw [htk, List.mem_append, List.mem_singleton] at hu
                          rcases hu with hu | hu
                          · exact hdn u hu
                          · exact absurd (show t = u by omega) hne
                      · rw [cI_app]; simp [upd_app, cI]
                  · simp (disch := omega) only [go_sem, ↓IntWalk.iteOmega, IntWalk.toNatUp, Nat.reduceEqDiff, Nat.reduceAdd, Nat.reduceMul, Nat.reduceSub, Nat.reduceLT, Nat.reduceLeDiff, Int.reduceToNat, Int.reduceLT, Int.reduceLE, Int.reduceEq, Int.reduceAdd, Int.reduceSub, Int.reduceMul, Int.toNat_natCast, reduceCtorEq, decide_true, decide_false, IntWalk.i64_in, IntWalk.u64_in, IntWalk.u8_in, h2, h5, h8, h11, h12, ho14, ho33, hv, hrow, hrow2, hgl, hget, IntWalk.i64_in]
                    have hje : j = (rows.getD s []).length := by omega
                    rw [hje, List.take_length] at hdn
                    exact ⟨_, by omega, i + 1, b, g, l, hB.next hlt hs hdn, by omega, rfl, hNI.keep (fun _ _ => rfl) (by omega), by omega, rfl, rfl, hHS'.keep (fun _ _ => rfl) (by omega), rfl⟩
            · have hie : i = l.length := by omega
              subst hie
              rw [← hB.finish]
              have hall : (cB b).take N = cB b := by rw [← hB.len]; exact cB_all b
              have hbl := hB.len
              generalize hv : a 6 = v at hHS
              rcases hHS with ⟨rfl, e2, _⟩ | ⟨i1, g1, rfl, hi1, hrow, hlen⟩
              · simp (disch := omega) only [go_sem, ↓IntWalk.iteOmega, IntWalk.toNatUp, Nat.reduceEqDiff, Nat.reduceAdd, Nat.reduceMul, Nat.reduceSub, Nat.reduceLT, Nat.reduceLeDiff, Int.reduceToNat, Int.reduceLT, Int.reduceLE, Int.reduceEq, Int.reduceAdd, Int.reduceSub, Int.reduceMul, Int.toNat_natCast, reduceCtorEq, decide_true, decide_false, IntWalk.i64_in, IntWalk.u64_in, IntWalk.u8_in, h2, h5, h8, h11, ho14, ho33, hv, hbl, hall, IntWalk.i64_in]
                rw [slB, hbl]
              · simp (disch := omega) only [go_sem, ↓IntWalk.iteOmega, IntWalk.toNatUp, Nat.reduceEqDiff, Nat.reduceAdd, Nat.reduceMul, Nat.reduceSub, Nat.reduceLT, Nat.reduceLeDiff, Int.reduceToNat, Int.reduceLT, Int.reduceLE, Int.reduceEq, Int.reduceAdd, Int.reduceSub, Int.reduceMul, Int.toNat_natCast, reduceCtorEq, decide_true, decide_false, IntWalk.i64_in, IntWalk.u64_in, IntWalk.u8_in, h2, h5, h8, h11, ho14, ho33, hv, hbl, hall, IntWalk.i64_in]
                rw [slB, hbl]
theorem look46 (X) : lookedAt (EX md0 X) nz46 2 Try.f46 = true := by kernel_rfl
theorem closed_ok (N : Nat) (S F : Int) (ss fs) (hw : Wf N S F ss fs) (is : List Bool) (his : is.length = N) : Ok Try.prog 46 [nfaV N S F ss fs, slB is] (slB (closeB N (rowsOf N fs) (idxs is))) := by
  refine ok_of_WP (E := EX md0 (fun _ _ => none)) (cr := noR) (tab_nil _) (noR_ok _) mixed (k := N + fs.length + 2) Try.func46 (look46 _) rfl (WP_mono (closed_wp _ _ _ _ N S F ss fs hw is his (by omega)) ?_)
  rintro u a o nx ⟨rfl, h⟩
  exact ⟨.inr rfl, h⟩
theorem look45 (X) : lookedAt (EX md0 X) (fun _ => none) 1 Try.f45 = true := by kernel_rfl
theorem list_ok (b : List Bool) (hb : b.length ≤ 100000) : Ok Try.prog 45 [slB b] (slI (idxs b)) := by
  refine ok_of_WP (E := EX md0 (fun _ _ => none)) (cr := noR) (tab_nil _) (noR_ok _) mixed (k := b.length + 1) Try.func45 (look45 _) rfl ?_
  simp only [Try.f45, Option.getD_some]
  simp (disch := omega) only [go_sem, ↓IntWalk.iteOmega, IntWalk.toNatUp, Nat.reduceEqDiff, Nat.reduceAdd, Nat.reduceMul, Nat.reduceSub, Nat.reduceLT, Nat.reduceLeDiff, Int.reduceToNat, Int.reduceLT, Int.reduceLE, Int.reduceEq, Int.reduceAdd, Int.reduceSub, Int.reduceMul, Int.toNat_natCast, reduceCtorEq, decide_true, decide_false, IntWalk.i64_in, IntWalk.u64_in, IntWalk.u8_in, begin_]
  refine WP_loop (fun m a o nx => ∃ i, i ≤ b.length ∧ m = b.length - i ∧ a 0 = slB b ∧ a 4 = .int .i64 i ∧ HS 3 1 18 o nx (a 3) (idxs (b.take i)).length (cI (idxs (b.take i)))) b.length ?_ ?_ ?_
  · omega
  · refine ⟨0, by omega, by omega, ?_⟩
    simp only [go_sem, ↓IntWalk.iteOmega, IntWalk.toNatUp, Nat.reduceEqDiff, Nat.reduceAdd, Nat.reduceMul, Nat.reduceSub, Nat.reduceLT, Nat.reduceLeDiff, Int.reduceToNat, Int.reduceLT, Int.reduceLE, Int.reduceEq, Int.reduceAdd, Int.reduceSub, Int.reduceMul, Int.toNat_natCast, reduceCtorEq, decide_true, decide_false, IntWalk.i64_in, IntWalk.u64_in, IntWalk.u8_in, List.take_zero]
    exact HS.nil
  · rintro m a o nx ⟨i, hi, rfl, h0, h4, hHS⟩
    by_cases hlt : i < b.length
    · have hgb := cB_get (s := 1) hlt
      have hsn := idxs_snoc hlt
      have hle := idxs_le (b.take i)
      rw [List.length_take] at hle
      generalize hv : a 3 = v at hHS
      cases hbi : b.getD i false with
      | true =>
        rw [hbi] at hgb hsn
        rw [if_pos rfl] at hsn
        rcases hHS with ⟨rfl, e2, e3⟩ | ⟨i1, g1, rfl, hi1, hrow, hlen⟩
        · simp (disch := omega) only [go_sem, ↓IntWalk.iteOmega, IntWalk.toNatUp, Nat.reduceEqDiff, Nat.reduceAdd, Nat.reduceMul, Nat.reduceSub, Nat.reduceLT, Nat.reduceLeDiff, Int.reduceToNat, Int.reduceLT, Int.reduceLE, Int.reduceEq, Int.reduceAdd, Int.reduceSub, Int.reduceMul, Int.toNat_natCast, reduceCtorEq, decide_true, decide_false, IntWalk.i64_in, IntWalk.u64_in, IntWalk.u8_in, h0, h4, hv, hgb, IntWalk.i64_in]
          have e4 : idxs (b.take i) = [] := List.length_eq_zero_iff.1 e2
          refine ⟨_, ?_, i + 1, by omega, rfl, rfl, .inr ⟨nx + 2, (nx + 2, 18), ?_, by omega, ?_, ?_⟩⟩
          · omega
          · rw [hsn, e4]; rfl
          · rw [hsn, e4]; simp [upd_app, cI]
          · rw [hsn, e4]; rfl
        · simp (disch := omega) only [go_sem, ↓IntWalk.iteOmega, IntWalk.toNatUp, Nat.reduceEqDiff, Nat.reduceAdd, Nat.reduceMul, Nat.reduceSub, Nat.reduceLT, Nat.reduceLeDiff, Int.reduceToNat, Int.reduceLT, Int.reduceLE, Int.reduceEq, Int.reduceAdd, Int.reduceSub, Int.reduceMul, Int.toNat_natCast, reduceCtorEq, decide_true, decide_false, IntWalk.i64_in, IntWalk.u64_in, IntWalk.u8_in, h0, h4, hv, hgb, hrow, IntWalk.i64_in]
          refine ⟨_, ?_, i + 1, by omega, rfl, rfl, .inr ⟨i1, (nx + 2, 18), ?_, by omega, ?_, ?_⟩⟩
          · omega
          · rw [hsn, List.length_append]; rfl
          · rw [hsn, cI_app]; simp [upd_app, cI]
          · rw [cI_length, Nat.mul_one]
      | false =>
        rw [hbi] at hgb hsn
        rw [if_neg (by simp), List.append_nil] at hsn
        simp (disch := omega) only [go_sem, ↓IntWalk.iteOmega, IntWalk.toNatUp, Nat.reduceEqDiff, Nat.reduceAdd, Nat.reduceMul, Nat.reduceSub, Nat.reduceLT, Nat.reduceLeDiff, Int.reduceToNat, Int.reduceLT, Int.reduceLE, Int.reduceEq, Int.reduceAdd, Int.reduceSub, Int.reduceMul, Int.toNat_natCast, reduceCtorEq, decide_true, decide_false, IntWalk.i64_in, IntWalk.u64_in, IntWalk.u8_in, h0, h4, hv, hgb, IntWalk.i64_in]
        exact ⟨_, by omega, i + 1, by omega, rfl, rfl, by rw [hsn]; exact hHS.keep (fun _ _ => rfl) (by omega)⟩
    · have hie : i = b.length := by omega
      rw [hie, List.take_length] at hHS
      have hvw := hHS.view 11
      rw [view_cI] at hvw
      simp (disch := omega) only [go_sem, ↓IntWalk.iteOmega, IntWalk.toNatUp, Nat.reduceEqDiff, Nat.reduceAdd, Nat.reduceMul, Nat.reduceSub, Nat.reduceLT, Nat.reduceLeDiff, Int.reduceToNat, Int.reduceLT, Int.reduceLE, Int.reduceEq, Int.reduceAdd, Int.reduceSub, Int.reduceMul, Int.toNat_natCast, reduceCtorEq, decide_true, decide_false, IntWalk.i64_in, IntWalk.u64_in, IntWalk.u8_in, h0, h4, IntWalk.i64_in]
      exact hvw
end Go.Proofs.Ytcaemgpificohaa.A
