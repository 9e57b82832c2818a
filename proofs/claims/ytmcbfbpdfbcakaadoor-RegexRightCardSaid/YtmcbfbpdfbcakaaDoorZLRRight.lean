/- RegexRight answers true for whatever it is called with. -/
import Derived.Test.YtmcbfbpdfbcakaaDoorRows
import Derived.ChangeVars
import Derived.JoinedOf
import Derived.LaidLaws
import Derived.LaidHandle
import Derived.RowKit
import Derived.Test.YtmcbfbpdfbcakaaDoorTie
import Derived.Test.YtmcbfbpdfbcakaaDoorCards
import Derived.Shelf.Strings.Search1
import Derived.Shelf.Strings.OnBuilder
import Derived.Test.YtmcbfbpdfbcakaaDoorMLRRight1
import Derived.Test.YtmcbfbpdfbcakaaDoorMLRRight2
import Derived.Test.YtmcbfbpdfbcakaaDoorMLRRight3
import Derived.Test.YtmcbfbpdfbcakaaDoorMLRRight4
import Derived.Test.YtmcbfbpdfbcakaaDoorMLRRight5
import Derived.Test.YtmcbfbpdfbcakaaDoorMLRRight6
set_option linter.unusedVariables false
set_option linter.unusedSimpArgs false
set_option linter.unnecessarySimpa false
/- Raw expressions' trees are right, slim, not high. -/
namespace Go.Proofs.YtmcbfbpdfbcakaaDoor.A
open Go
set_option maxRecDepth 20000
mutual
def slimN : Nd → Bool
  | .mk _ _ _ _ l => decide (l.length ≤ 4) && slimNs l
def slimNs : List Nd → Bool
  | [] => true
  | x :: l => slimN x && slimNs l
end
mutual
def dN : Nd → Nat
  | .mk _ _ _ _ l => dNs l + 1
def dNs : List Nd → Nat
  | [] => 0
  | x :: l => max (dN x) (dNs l)
end
theorem slimNs_all {l : List Nd} : slimNs l = l.all slimN := by
  induction l with
  | nil => rw [slimNs]; rfl
  | cons x l ih => rw [slimNs, ih, List.all_cons]
mutual
theorem slim_wide : ∀ n : Nd, slimN n = true → wideN n = true
  | .mk k s lo hi l, h => by
    rw [slimN, Bool.and_eq_true, decide_eq_true_eq] at h
    rw [wideN, Bool.and_eq_true, decide_eq_true_eq]
    exact ⟨by omega, slims_wide l h.2⟩
theorem slims_wide : ∀ l : List Nd, slimNs l = true → wideNs l = true
  | [], _ => by rw [wideNs]
  | x :: l, h => by
    rw [slimNs, Bool.and_eq_true] at h
    rw [wideNs, slim_wide x h.1, slims_wide l h.2]; rfl
end
def okR (h : Nat) (x : Nd) : Prop := rightN x = true ∧ slimN x = true ∧ dN x ≤ h
theorem okR.mono {h h' x} (hx : okR h x) (hh : h ≤ h') : okR h' x := ⟨hx.1, hx.2.1, Nat.le_trans hx.2.2 hh⟩
theorem okR_list : ∀ (l : List Nd) (h : Nat), (∀ x ∈ l, okR h x) → rightNs l = true ∧ slimNs l = true ∧ dNs l ≤ h
  | [], h, _ => ⟨by rw [rightNs], by rw [slimNs], by rw [dNs]; omega⟩
  | x :: l, h, hl => by
    obtain ⟨h1, h2, h3⟩ := hl x List.mem_cons_self
    obtain ⟨g1, g2, g3⟩ := okR_list l h (fun y hy => hl y (List.mem_cons_of_mem _ hy))
    rw [rightNs, slimNs, dNs, h1, h2, g1, g2]
    exact ⟨rfl, rfl, by omega⟩
theorem okR_mk {k s lo hi : Int} {l : List Nd} {h : Nat} (hh : headN k s lo hi l.length = true) (hn : l.length ≤ 4) (hl : ∀ x ∈ l, okR h x) : okR (h + 1) (.mk k s lo hi l) := by
  obtain ⟨g1, g2, g3⟩ := okR_list l h hl
  refine ⟨by rw [rightN, hh, g1]; rfl, by rw [slimN, g2, decide_eq_true hn]; rfl, by rw [dN]; omega⟩
theorem sign_inR (x : Int) : 1 ≤ sign x ∧ sign x ≤ 31 := by
  have h1 := Int.emod_nonneg x (show (5 : Int) ≠ 0 by decide)
  have h2 := Int.emod_lt_of_pos x (show (0 : Int) < 5 by decide)
  unfold sign
  obtain ⟨m, hm⟩ : ∃ m, m = x % 5 := ⟨_, rfl⟩
  rw [← hm] at h1 h2 ⊢
  have : m = 0 ∨ m = 1 ∨ m = 2 ∨ m = 3 ∨ m = 4 := by omega
  rcases this with rfl | rfl | rfl | rfl | rfl <;> decide
theorem head_set {s : Int} (h : 1 ≤ s ∧ s ≤ 31) : headN 1 s 0 0 ([] : List Nd).length = true := by
  simp [headN, countN, h.1, h.2]
theorem okR_leaf {s : Int} (h : 1 ≤ s ∧ s ≤ 31) : okR 1 (.mk 1 s 0 0 []) := okR_mk (h := 0) (head_set h) (by simp) (fun x hx => by cases hx)
theorem partN_okR (n : Int) (ls : List Nd) (h : Nat) (h1 : 1 ≤ h) (hl : ∀ x ∈ ls, okR h x) (i : Nat) : okR h (partN n ls i) := by
  unfold partN
  split
  · rename_i hi
    rw [List.getD_eq_getElem?_getD, List.getElem?_eq_getElem hi]
    exact hl _ (List.getElem_mem hi)
  · exact (okR_leaf (sign_inR _)).mono h1
theorem many_okR (n : Int) (ls : List Nd) (h : Nat) (h1 : 1 ≤ h) (hl : ∀ x ∈ ls, okR h x) (k : Nat) : ∀ x ∈ (List.range k).map (partN n ls), okR h x := by
  intro x hx
  obtain ⟨i, _, rfl⟩ := List.mem_map.1 hx
  exact partN_okR n ls h h1 hl i
theorem buildN_okR (k n : Int) (ls : List Nd) (h : Nat) (h1 : 1 ≤ h) (hl : ∀ x ∈ ls, okR h x) : okR (h + 1) (buildN k n ls) := by
  have hm := many4_in ls.length
  have hp0 := partN_okR n ls h h1 hl 0
  have n4 : 0 ≤ n % 4 ∧ n % 4 < 4 := ⟨Int.emod_nonneg _ (by decide), Int.emod_lt_of_pos _ (by decide)⟩
  have n3 : 0 ≤ IntKind.i64.wrap (n.tdiv 4) % 3 ∧ IntKind.i64.wrap (n.tdiv 4) % 3 < 3 := ⟨Int.emod_nonneg _ (by decide), Int.emod_lt_of_pos _ (by decide)⟩
  have n31 : 0 ≤ n % 31 ∧ n % 31 < 31 := ⟨Int.emod_nonneg _ (by decide), Int.emod_lt_of_pos _ (by decide)⟩
  have hlist := many_okR n ls h h1 hl (many4 ls.length)
  have hlen : ((List.range (many4 ls.length)).map (partN n ls)).length = many4 ls.length := by simp
  have one : ∀ x ∈ [partN n ls 0], okR h x := fun x hx => by rw [List.mem_singleton.1 hx]; exact hp0
  unfold buildN
  repeat' split
  · exact (okR_leaf ⟨by omega, by omega⟩).mono (by omega)
  · exact (okR_leaf (sign_inR _)).mono (by omega)
  · exact okR_mk (by simp [headN, countN]) (by simp) (fun x hx => by cases hx)
  · exact okR_mk (by simp [headN, countN]) (by simp) (fun x hx => by cases hx)
  · refine okR_mk ?_ (by omega) hlist
    rw [hlen]; simp [headN, countN]; omega
  · refine okR_mk ?_ (by omega) hlist
    rw [hlen]; simp [headN, countN]; omega
  · exact okR_mk (by simp [headN, countN]) (by simp) one
  · exact okR_mk (by simp [headN, countN]) (by simp) one
  · exact okR_mk (by simp [headN, countN]) (by simp) one
  · refine okR_mk ?_ (by simp) one
    simp [headN, countN]; omega
theorem fold_leR {f : List Rw → Int} (hf : ∀ l, 0 ≤ f l) : ∀ (l : List Rw) (n : Int), l.foldl (szStep f) n ≤ 14 → n ≤ 14 ∧ ∀ r ∈ l, f (kids r) ≤ 14 ∨ n < 0
  | [], n, h => ⟨h, fun r hr => by cases hr⟩
  | r :: l, n, h => by
    rw [List.foldl_cons] at h
    obtain ⟨h1, h2⟩ := fold_leR hf l _ h
    have := hf (kids r)
    unfold szStep at h1 h2
    split at h1
    · rename_i hn
      rw [if_pos hn] at h2
      refine ⟨by omega, fun q hq => ?_⟩
      rcases List.mem_cons.1 hq with rfl | hq
      · omega
      · have := h2 q hq; omega
    · omega
theorem makeNs_memR : ∀ {l : List Rw} {x : Nd}, x ∈ makeNs l → ∃ r ∈ l, x = makeN r
  | [], x, h => by rw [makeNs] at h; cases h
  | r :: l, x, h => by
    rw [makeNs] at h
    rcases List.mem_cons.1 h with rfl | h
    · exact ⟨r, List.mem_cons_self, rfl⟩
    · obtain ⟨q, hq, e⟩ := makeNs_memR h
      exact ⟨q, List.mem_cons_of_mem _ hq, e⟩
theorem made_okR : ∀ (d : Nat) (l : List Rw), szD d l ≤ 14 → ∀ r ∈ l, okR (d + 1) (makeN r)
  | 0, l, h, _, _ => by rw [szD] at h; omega
  | d + 1, l, h, r, hr => by
    rw [szD] at h
    obtain ⟨_, h2⟩ := fold_leR (fun l => (sz_in d l).1) l 0 h
    have h3 : szD d (kids r) ≤ 14 := by have := h2 r hr; omega
    obtain ⟨k, n, ch⟩ := r
    have ih := made_okR d ch h3
    rw [makeN]
    exact buildN_okR k n _ (d + 1) (by omega) (fun x hx => by obtain ⟨q, hq, rfl⟩ := makeNs_memR hx; exact ih q hq)
theorem oneN_okR {l : List Rw} (h : fewR l = true) : okR 8 (oneN l) := by
  unfold fewR at h
  rw [decide_eq_true_eq] at h
  unfold oneN
  cases l with
  | nil => exact (okR_leaf ⟨by omega, by omega⟩).mono (by omega)
  | cons r l => exact made_okR 7 _ h r List.mem_cons_self
end Go.Proofs.YtmcbfbpdfbcakaaDoor.A
/- law4.spoilt: an expression with one thing of it turned. -/
namespace Go.Proofs.YtmcbfbpdfbcakaaDoor.A
open Go
set_option maxRecDepth 20000
theorem lookSpoilt (X) : lookedAt (EX md0 X) (fun _ => none) 4 Tryd.f22 = true := by kernel_rfl
def RSp (c y : Nd) (a w v : Int) (args : List AV) (r : AV) : Prop := args = [nodeV c, .int .i64 a, .int .i64 w, .int .i64 v] ∧ r = nodeV y
theorem RSp_fn (c y a w v) : Fun1 (RSp c y a w v) := by
  rintro args r r' ⟨_, rfl⟩ ⟨_, rfl⟩
  rfl
noncomputable def XSp (c y : Nd) (a w v : Int) : FuncId → List AV → Option AV := tabLook [(22, tRel (RSp c y a w v)), (17, tRel RW)]
theorem cNds_set {l : List Nd} {j : Nat} (h : j < l.length) (y : Nd) : splice (cNds l) (j * 5) (cNd y) = cNds (l.set j y) := by
  induction l generalizing j with
  | nil => simp at h
  | cons r l ih =>
    have h5 := cNd_length r
    have h5' := cNd_length y
    cases j with
    | zero =>
      rw [cNds_cons, List.set_cons_zero, cNds_cons, splice]
      simp [h5', h5]
    | succ j =>
      have ih := ih (j := j) (by simpa using h)
      rw [cNds_cons, List.set_cons_succ, cNds_cons, ← ih, splice, splice]
      have e : (j + 1) * 5 = (cNd r).length + j * 5 := by rw [h5]; omega
      rw [e, List.take_length_add_append, List.append_assoc, List.append_assoc, Nat.add_assoc, ← List.drop_drop, List.drop_left]
      simp
theorem slim_at {l : List Nd} (h : slimNs l = true) {i : Nat} (hi : i < l.length) : slimN (l.getD i default) = true := by
  rw [slimNs_all, List.all_eq_true] at h
  rw [List.getD_eq_getElem?_getD, List.getElem?_eq_getElem hi]
  exact h _ (List.getElem_mem hi)
def finSp (y : Nd) : WPost := fun u a o nx => (u = .normal ∨ u = .ret) ∧ wO (resultsL Tryd.prog a ⟨o, nx⟩ Tryd.f22.results.toList) (fun vs => view o vDepth (tup1 vs) = nodeV y)
set_option maxHeartbeats 4000000 in
theorem spoilt_rec (k s lo hi : Int) (l : List Nd) (hl : l.length ≤ 4) (a w v : Int) (h0 : l.length ≠ 0) (h3 : 0 < a % 3) (y : Nd) (X : FuncId → List AV → Option AV) (hwi : ∀ a m : Int, 0 < m → m ≤ 1000000 → X 17 [.int .i64 a, .int .i64 m] = some (.int .i64 (a % m)))
    (j : Nat) (hj : (j : Int) = (IntKind.i64.wrap (a.tdiv 3)) % l.length) (hX : X 22 [nodeV (l.getD j default), .int .i64 (IntKind.i64.wrap (a.tdiv 7)), .int .i64 w, .int .i64 v] = some (nodeV y)) :
    WP (EX md0 X) noR 1002 (fun _ => none) (Tryd.f22.body.getD .skip) (begin_ [nodeV (.mk k s lo hi l), .int .i64 a, .int .i64 w, .int .i64 v]) (fun _ => none) 0 (finSp (.mk k s lo hi (l.set j y))) := by
  have hjl : j < l.length := by have := Int.emod_lt_of_pos (IntKind.i64.wrap (a.tdiv 3)) (show (0 : Int) < l.length by omega); omega
  have hat := cNds_at hjl
  have hset := cNds_set hjl y
  simp only [Tryd.f22, Option.getD_some, nodeV, cNd_mk, finSp] at hX ⊢
  have hl0 : (l.set j y).length = l.length := List.length_set
  have hvw : ∀ o d, (cNds (l.set j y)).map (view o d) = cNds (l.set j y) := fun o d => view_cNds o d _
  have hcl : (cNds (l.set j y)).length = l.length * 5 := by rw [cNds_length, hl0]
  have htk : (cNds (l.set j y)).take (l.length * 5) = cNds (l.set j y) := take_len hcl
  simp (disch := omega) only [go_sem, ↓IntWalk.iteOmega, IntWalk.toNatUp, Nat.reduceEqDiff, Nat.reduceAdd, Nat.reduceMul, Nat.reduceSub, Nat.reduceLT, Nat.reduceLeDiff, Int.reduceToNat, Int.reduceLT, Int.reduceLE, Int.reduceEq, Int.reduceAdd, Int.reduceSub, Int.reduceMul, Int.toNat_natCast, reduceCtorEq, decide_true, decide_false, IntWalk.i64_in, IntWalk.u64_in, IntWalk.u8_in, hwi, hat, hset, ← hj, hX]
  refine ⟨.inr rfl, ?_⟩
  simp only [Tryd.f22]
  simp (disch := omega) only [go_sem, ↓IntWalk.iteOmega, IntWalk.toNatUp, Nat.reduceEqDiff, Nat.reduceAdd, Nat.reduceMul, Nat.reduceSub, Nat.reduceLT, Nat.reduceLeDiff, Int.reduceToNat, Int.reduceLT, Int.reduceLE, Int.reduceEq, Int.reduceAdd, Int.reduceSub, Int.reduceMul, Int.toNat_natCast, reduceCtorEq, decide_true, decide_false, IntWalk.i64_in, IntWalk.u64_in, IntWalk.u8_in, hcl, htk, hl0]
  rw [nodeV, cNd_mk, slN, hl0]
def turnN (k s lo hi : Int) (l : List Nd) (w v : Int) : Nd :=
  if w % 6 = 0 then .mk (v % 11) s lo hi l else if w % 6 = 1 then .mk k (v % 34 - 1) lo hi l else if w % 6 = 2 then .mk k s (v % 12 - 1) hi l
  else if w % 6 = 3 then .mk k s lo (v % 12 - 1) l else if w % 6 = 4 then .mk k s lo hi (l ++ [.mk 3 0 0 0 []]) else .mk k s lo hi l.tail
set_option maxHeartbeats 8000000 in
theorem spoilt_leaf (k s lo hi : Int) (l : List Nd) (hl : l.length ≤ 4) (a w v : Int) (h0 : l.length = 0 ∨ (l.length ≠ 0 ∧ a % 3 = 0)) (X : FuncId → List AV → Option AV) (hwi : ∀ a m : Int, 0 < m → m ≤ 1000000 → X 17 [.int .i64 a, .int .i64 m] = some (.int .i64 (a % m))) :
    WP (EX md0 X) noR 1002 (fun _ => none) (Tryd.f22.body.getD .skip) (begin_ [nodeV (.mk k s lo hi l), .int .i64 a, .int .i64 w, .int .i64 v]) (fun _ => none) 0 (finSp (turnN k s lo hi l w v)) := by
  have hw6 : w % 6 = 0 ∨ w % 6 = 1 ∨ w % 6 = 2 ∨ w % 6 = 3 ∨ w % 6 = 4 ∨ w % 6 = 5 := by omega
  have hv11 := Int.emod_nonneg v (show (11 : Int) ≠ 0 by decide)
  have hv11' := Int.emod_lt_of_pos v (show (0 : Int) < 11 by decide)
  have hv34 := Int.emod_nonneg v (show (34 : Int) ≠ 0 by decide)
  have hv34' := Int.emod_lt_of_pos v (show (0 : Int) < 34 by decide)
  have hv12 := Int.emod_nonneg v (show (12 : Int) ≠ 0 by decide)
  have hv12' := Int.emod_lt_of_pos v (show (0 : Int) < 12 by decide)
  simp only [Tryd.f22, Option.getD_some, nodeV, cNd_mk, finSp]
  have htk : (cNds l).take (l.length * 5) = cNds l := take_len (cNds_length l)
  have hcl := cNds_length l
  have h3 : cNd (.mk 3 0 0 0 []) = [.int .i64 3, .int .i64 0, .int .i64 0, .int .i64 0, .sl 0 []] := by rw [cNd_mk, slN, cNds_nil]; rfl
  have hto : (cNds l ++ [AV.int .i64 3, AV.int .i64 0, AV.int .i64 0, AV.int .i64 0, AV.nil]).take ((l.length + 1) * 5) = cNds l ++ [AV.int .i64 3, AV.int .i64 0, AV.int .i64 0, AV.int .i64 0, AV.nil] := take_len (by rw [List.length_append, hcl]; simp; omega)
  rcases h0 with h0 | ⟨h0, h1⟩
  · obtain rfl := List.length_eq_zero_iff.1 h0
    rcases hw6 with e | e | e | e | e | e
    all_goals
      simp (disch := omega) only [go_sem, ↓IntWalk.iteOmega, IntWalk.toNatUp, Nat.reduceEqDiff, Nat.reduceAdd, Nat.reduceMul, Nat.reduceSub, Nat.reduceLT, Nat.reduceLeDiff, Int.reduceToNat, Int.reduceLT, Int.reduceLE, Int.reduceEq, Int.reduceAdd, Int.reduceSub, Int.reduceMul, Int.toNat_natCast, reduceCtorEq, decide_true, decide_false, IntWalk.i64_in, IntWalk.u64_in, IntWalk.u8_in, hwi, e, turnN]
      refine ⟨.inr rfl, ?_⟩
      simp only [Tryd.f22]
      simp (disch := omega) only [go_sem, ↓IntWalk.iteOmega, IntWalk.toNatUp, Nat.reduceEqDiff, Nat.reduceAdd, Nat.reduceMul, Nat.reduceSub, Nat.reduceLT, Nat.reduceLeDiff, Int.reduceToNat, Int.reduceLT, Int.reduceLE, Int.reduceEq, Int.reduceAdd, Int.reduceSub, Int.reduceMul, Int.toNat_natCast, reduceCtorEq, decide_true, decide_false, IntWalk.i64_in, IntWalk.u64_in, IntWalk.u8_in]
      simp only [nodeV, cNd_mk, slN, List.nil_append, List.tail_nil, cNds_one, cNds_nil, List.length_nil, List.length_cons]
  · have h0' : (0 : Int) < l.length := by omega
    rcases hw6 with e | e | e | e | e | e
    · simp (disch := omega) only [go_sem, ↓IntWalk.iteOmega, IntWalk.toNatUp, Nat.reduceEqDiff, Nat.reduceAdd, Nat.reduceMul, Nat.reduceSub, Nat.reduceLT, Nat.reduceLeDiff, Int.reduceToNat, Int.reduceLT, Int.reduceLE, Int.reduceEq, Int.reduceAdd, Int.reduceSub, Int.reduceMul, Int.toNat_natCast, reduceCtorEq, decide_true, decide_false, IntWalk.i64_in, IntWalk.u64_in, IntWalk.u8_in, hwi, e, h1, turnN]
      refine ⟨.inr rfl, ?_⟩
      simp only [Tryd.f22]
      simp (disch := omega) only [go_sem, ↓IntWalk.iteOmega, IntWalk.toNatUp, Nat.reduceEqDiff, Nat.reduceAdd, Nat.reduceMul, Nat.reduceSub, Nat.reduceLT, Nat.reduceLeDiff, Int.reduceToNat, Int.reduceLT, Int.reduceLE, Int.reduceEq, Int.reduceAdd, Int.reduceSub, Int.reduceMul, Int.toNat_natCast, reduceCtorEq, decide_true, decide_false, IntWalk.i64_in, IntWalk.u64_in, IntWalk.u8_in]
      rw [nodeV, cNd_mk]
    · simp (disch := omega) only [go_sem, ↓IntWalk.iteOmega, IntWalk.toNatUp, Nat.reduceEqDiff, Nat.reduceAdd, Nat.reduceMul, Nat.reduceSub, Nat.reduceLT, Nat.reduceLeDiff, Int.reduceToNat, Int.reduceLT, Int.reduceLE, Int.reduceEq, Int.reduceAdd, Int.reduceSub, Int.reduceMul, Int.toNat_natCast, reduceCtorEq, decide_true, decide_false, IntWalk.i64_in, IntWalk.u64_in, IntWalk.u8_in, hwi, e, h1, turnN]
      refine ⟨.inr rfl, ?_⟩
      simp only [Tryd.f22]
      simp (disch := omega) only [go_sem, ↓IntWalk.iteOmega, IntWalk.toNatUp, Nat.reduceEqDiff, Nat.reduceAdd, Nat.reduceMul, Nat.reduceSub, Nat.reduceLT, Nat.reduceLeDiff, Int.reduceToNat, Int.reduceLT, Int.reduceLE, Int.reduceEq, Int.reduceAdd, Int.reduceSub, Int.reduceMul, Int.toNat_natCast, reduceCtorEq, decide_true, decide_false, IntWalk.i64_in, IntWalk.u64_in, IntWalk.u8_in]
      rw [nodeV, cNd_mk]
    · simp (disch := omega) only [go_sem, ↓IntWalk.iteOmega, IntWalk.toNatUp, Nat.reduceEqDiff, Nat.reduceAdd, Nat.reduceMul, Nat.reduceSub, Nat.reduceLT, Nat.reduceLeDiff, Int.reduceToNat, Int.reduceLT, Int.reduceLE, Int.reduceEq, Int.reduceAdd, Int.reduceSub, Int.reduceMul, Int.toNat_natCast, reduceCtorEq, decide_true, decide_false, IntWalk.i64_in, IntWalk.u64_in, IntWalk.u8_in, hwi, e, h1, turnN]
      refine ⟨.inr rfl, ?_⟩
      simp only [Tryd.f22]
      simp (disch := omega) only [go_sem, ↓IntWalk.iteOmega, IntWalk.toNatUp, Nat.reduceEqDiff, Nat.reduceAdd, Nat.reduceMul, Nat.reduceSub, Nat.reduceLT, Nat.reduceLeDiff, Int.reduceToNat, Int.reduceLT, Int.reduceLE, Int.reduceEq, Int.reduceAdd, Int.reduceSub, Int.reduceMul, Int.toNat_natCast, reduceCtorEq, decide_true, decide_false, IntWalk.i64_in, IntWalk.u64_in, IntWalk.u8_in]
      rw [nodeV, cNd_mk]
    · simp (disch := omega) only [go_sem, ↓IntWalk.iteOmega, IntWalk.toNatUp, Nat.reduceEqDiff, Nat.reduceAdd, Nat.reduceMul, Nat.reduceSub, Nat.reduceLT, Nat.reduceLeDiff, Int.reduceToNat, Int.reduceLT, Int.reduceLE, Int.reduceEq, Int.reduceAdd, Int.reduceSub, Int.reduceMul, Int.toNat_natCast, reduceCtorEq, decide_true, decide_false, IntWalk.i64_in, IntWalk.u64_in, IntWalk.u8_in, hwi, e, h1, turnN]
      refine ⟨.inr rfl, ?_⟩
      simp only [Tryd.f22]
      simp (disch := omega) only [go_sem, ↓IntWalk.iteOmega, IntWalk.toNatUp, Nat.reduceEqDiff, Nat.reduceAdd, Nat.reduceMul, Nat.reduceSub, Nat.reduceLT, Nat.reduceLeDiff, Int.reduceToNat, Int.reduceLT, Int.reduceLE, Int.reduceEq, Int.reduceAdd, Int.reduceSub, Int.reduceMul, Int.toNat_natCast, reduceCtorEq, decide_true, decide_false, IntWalk.i64_in, IntWalk.u64_in, IntWalk.u8_in]
      rw [nodeV, cNd_mk]
    · simp (disch := omega) only [go_sem, ↓IntWalk.iteOmega, IntWalk.toNatUp, Nat.reduceEqDiff, Nat.reduceAdd, Nat.reduceMul, Nat.reduceSub, Nat.reduceLT, Nat.reduceLeDiff, Int.reduceToNat, Int.reduceLT, Int.reduceLE, Int.reduceEq, Int.reduceAdd, Int.reduceSub, Int.reduceMul, Int.toNat_natCast, reduceCtorEq, decide_true, decide_false, IntWalk.i64_in, IntWalk.u64_in, IntWalk.u8_in, hwi, e, h1, turnN, htk, hto, hcl]
      refine ⟨.inr rfl, ?_⟩
      simp only [Tryd.f22]
      simp (disch := omega) only [go_sem, ↓IntWalk.iteOmega, IntWalk.toNatUp, Nat.reduceEqDiff, Nat.reduceAdd, Nat.reduceMul, Nat.reduceSub, Nat.reduceLT, Nat.reduceLeDiff, Int.reduceToNat, Int.reduceLT, Int.reduceLE, Int.reduceEq, Int.reduceAdd, Int.reduceSub, Int.reduceMul, Int.toNat_natCast, reduceCtorEq, decide_true, decide_false, IntWalk.i64_in, IntWalk.u64_in, IntWalk.u8_in, htk, hto, hcl]
      rw [nodeV, cNd_mk, slN, cNds_app, cNds_one, h3, List.length_append]
      rfl
    · simp (disch := omega) only [go_sem, ↓IntWalk.iteOmega, IntWalk.toNatUp, Nat.reduceEqDiff, Nat.reduceAdd, Nat.reduceMul, Nat.reduceSub, Nat.reduceLT, Nat.reduceLeDiff, Int.reduceToNat, Int.reduceLT, Int.reduceLE, Int.reduceEq, Int.reduceAdd, Int.reduceSub, Int.reduceMul, Int.toNat_natCast, reduceCtorEq, decide_true, decide_false, IntWalk.i64_in, IntWalk.u64_in, IntWalk.u8_in, hwi, e, h1, turnN, htk, hcl]
      refine ⟨.inr rfl, ?_⟩
      simp only [Tryd.f22]
      simp (disch := omega) only [go_sem, ↓IntWalk.iteOmega, IntWalk.toNatUp, Nat.reduceEqDiff, Nat.reduceAdd, Nat.reduceMul, Nat.reduceSub, Nat.reduceLT, Nat.reduceLeDiff, Int.reduceToNat, Int.reduceLT, Int.reduceLE, Int.reduceEq, Int.reduceAdd, Int.reduceSub, Int.reduceMul, Int.toNat_natCast, reduceCtorEq, decide_true, decide_false, IntWalk.i64_in, IntWalk.u64_in, IntWalk.u8_in, htk, hcl]
      rw [nodeV, cNd_mk, slN, List.length_tail]
      cases l with
      | nil => exact absurd rfl h0
      | cons x l => rw [cNds_cons, List.drop_left' (cNd_length x), List.tail_cons]
theorem spoilt_ok : ∀ (n : Nd) (a w v : Int), slimN n = true → ∃ y, wideN y = true ∧ Ok Tryd.prog 22 [nodeV n, .int .i64 a, .int .i64 w, .int .i64 v] (nodeV y)
  | .mk k s lo hi l, a, w, v, hs => by
    rw [slimN, Bool.and_eq_true, decide_eq_true_eq] at hs
    obtain ⟨hl, hls⟩ := hs
    have hwl := slims_wide l hls
    by_cases hrec : l.length ≠ 0 ∧ 0 < a % 3
    · have hjn := Int.emod_nonneg (IntKind.i64.wrap (a.tdiv 3)) (show (l.length : Int) ≠ 0 by omega)
      have hjl := Int.emod_lt_of_pos (IntKind.i64.wrap (a.tdiv 3)) (show (0 : Int) < l.length by omega)
      obtain ⟨j, hj⟩ : ∃ j : Nat, (j : Int) = (IntKind.i64.wrap (a.tdiv 3)) % l.length := ⟨_, Int.toNat_of_nonneg hjn⟩
      have hjl' : j < l.length := by omega
      have := size_at_lt hjl' k s lo hi
      obtain ⟨y, hy, hok⟩ := spoilt_ok (l.getD j default) (IntKind.i64.wrap (a.tdiv 7)) w v (slim_at hls hjl')
      refine ⟨.mk k s lo hi (l.set j y), ?_, ok_of_WP (E := EX md0 (XSp (l.getD j default) y (IntKind.i64.wrap (a.tdiv 7)) w v)) (cr := noR) (tab_cons (tab_cons (tab_nil _) (tRel_ok within2_ok)) (tRel_ok (fun args r h => by obtain ⟨rfl, rfl⟩ := h; exact hok))) (noR_ok _) mixed (k := 1002) Tryd.func22 (lookSpoilt _) rfl (spoilt_rec k s lo hi l hl a w v hrec.1 hrec.2 y _ (fun a m h1 h2 => rw_eq h1 h2) j hj (tRel_eq (RSp_fn _ _ _ _ _) ⟨rfl, rfl⟩))⟩
      rw [wideN, Bool.and_eq_true, decide_eq_true_eq, List.length_set, wideNs_all, List.all_eq_true]
      refine ⟨by omega, fun x hx => ?_⟩
      rcases List.mem_or_eq_of_mem_set hx with h | rfl
      · rw [wideNs_all, List.all_eq_true] at hwl
        exact hwl x h
      · exact hy
    · have ha := Int.emod_nonneg a (show (3 : Int) ≠ 0 by decide)
      refine ⟨turnN k s lo hi l w v, ?_, ok_of_WP (E := EX md0 (tabLook [(17, tRel RW)])) (cr := noR) (tab_cons (tab_nil _) (tRel_ok within2_ok)) (noR_ok _) mixed (k := 1002) Tryd.func22 (lookSpoilt _) rfl (spoilt_leaf k s lo hi l hl a w v (by omega) _ (fun a m h1 h2 => rw_eq h1 h2))⟩
      unfold turnN
      repeat' split
      all_goals rw [wideN, Bool.and_eq_true, decide_eq_true_eq]
      · exact ⟨by omega, hwl⟩
      · exact ⟨by omega, hwl⟩
      · exact ⟨by omega, hwl⟩
      · exact ⟨by omega, hwl⟩
      · refine ⟨by simp; omega, ?_⟩
        rw [wideNs_all, List.all_append, ← wideNs_all, hwl]
        simp [wideN, wideNs]
      · refine ⟨by rw [List.length_tail]; omega, ?_⟩
        rw [wideNs_all, List.all_eq_true] at hwl ⊢
        exact fun x hx => hwl x (List.mem_of_mem_tail hx)
termination_by n => SizeOf.sizeOf n
decreasing_by
  exact this
end Go.Proofs.YtmcbfbpdfbcakaaDoor.A
/- What all laws' rows share: arguments that read are data. -/
namespace Go.Proofs.YtmcbfbpdfbcakaaDoor.A
open Go
theorem shaped_int {P : Program} {d : Nat} {t : TypeId} {xs : List AV} (hu : P.underlying t = some (.int .i64)) (h : Shaped P d t xs) : ∃ n, xs = [.int .i64 n] := by
  cases d with
  | zero => exact h.elim
  | succ d =>
    unfold Shaped at h
    rw [hu] at h
    obtain ⟨n, e, _⟩ := h
    exact ⟨n, e⟩
theorem ints_of {P : Program} {d : Nat} {t : TypeId} (hu : P.underlying t = some (.int .i64)) : ∀ parts : List (List AV), (∀ p ∈ parts, Shaped P d t p) → ∃ ns : List Int, parts.length = ns.length ∧ parts.flatten = cI ns
  | [], _ => ⟨[], rfl, rfl⟩
  | p :: parts, h => by
    obtain ⟨n, rfl⟩ := shaped_int hu (h p (List.mem_cons_self ..))
    obtain ⟨ns, h1, h2⟩ := ints_of hu parts (fun q hq => h q (List.mem_cons_of_mem _ hq))
    exact ⟨n :: ns, by simp [h1], by simp [cI, h2]⟩
theorem arg_ints {P : Program} {t e : TypeId} {x : AV} (hu : P.underlying t = some (.slice e)) (he : P.underlying e = some (.int .i64)) (h : ArgOf P t x) : ∃ ns : List Int, x = slI ns ∧ ns.length ≤ maxLen := by
  unfold ArgOf at h
  rw [hu] at h
  obtain ⟨d, h⟩ := h
  cases d with
  | zero => exact h.elim
  | succ d =>
    unfold Shaped at h
    rw [hu] at h
    obtain ⟨parts, e1, hle, h2⟩ := h
    injection e1 with e1 _
    obtain ⟨ns, h3, h4⟩ := ints_of he parts h2
    exact ⟨ns, by rw [e1, h3, h4], by omega⟩
theorem arg_bool {P : Program} {t : TypeId} {x : AV} (hu : P.underlying t = some .bool) (h : ArgOf P t x) : ∃ b, x = .bool b := by
  unfold ArgOf at h
  rw [hu] at h
  obtain ⟨d, h⟩ := h
  cases d with
  | zero => exact h.elim
  | succ d =>
    unfold Shaped at h
    rw [hu] at h
    obtain ⟨n, e⟩ := h
    injection e with e _
    exact ⟨n, e⟩
end Go.Proofs.YtmcbfbpdfbcakaaDoor.A
namespace Go.Proofs.YtmcbfbpdfbcakaaDoor
open Go Go.Proofs.YtmcbfbpdfbcakaaDoor.A
theorem Tryd.own : ownKnob Tryd.prog.godebug = none := by kernel_rfl
theorem Tryd.laidOut : laidOutB Tryd.prog = true := by kernel_rfl
end Go.Proofs.YtmcbfbpdfbcakaaDoor
/- Arguments that read are data: parts, fields; machines of one way. -/
namespace Go.Proofs.YtmcbfbpdfbcakaaDoor.A
open Go
set_option maxRecDepth 20000
theorem shaped_fields {P : Program} {d : Nat} {t : TypeId} {fs : Array Field} (hu : P.underlying t = some (.struct fs)) {xs : List AV} (h : Shaped P d t xs) : ∃ (d' : Nat) (parts : List (List AV)), xs = parts.flatten ∧ parts.length = fs.toList.length ∧ ∀ (i : Nat) (f : Field) (p : List AV), fs.toList[i]? = some f → parts[i]? = some p → Shaped P d' f.type p := by
  cases d with
  | zero => exact h.elim
  | succ d =>
    unfold Shaped at h
    rw [hu] at h
    obtain ⟨parts, h1, h2, h3⟩ := h
    exact ⟨d, parts, h1, by simpa using h2, fun i f p hf hp => h3 i f p (by simpa using hf) hp⟩
theorem shaped_slice {P : Program} {d : Nat} {t e : TypeId} (hu : P.underlying t = some (.slice e)) {xs : List AV} (h : Shaped P d t xs) : ∃ (d' : Nat) (parts : List (List AV)), xs = [.sl parts.length parts.flatten] ∧ parts.length ≤ maxLen ∧ ∀ p ∈ parts, Shaped P d' e p := by
  cases d with
  | zero => exact h.elim
  | succ d =>
    unfold Shaped at h
    rw [hu] at h
    obtain ⟨parts, h1, h2, h3⟩ := h
    exact ⟨d, parts, h1, h2, h3⟩
noncomputable def fieldsOf (t : TypeId) : Array Field := match Tryd.prog.underlying t with | some (.struct fs) => fs | _ => #[]
theorem shaped_bool {P : Program} {d : Nat} {t : TypeId} {xs : List AV} (hu : P.underlying t = some .bool) (h : Shaped P d t xs) : ∃ b, xs = [.bool b] := by
  cases d with
  | zero => exact h.elim
  | succ d =>
    unfold Shaped at h
    rw [hu] at h
    exact h
theorem shaped_arr {P : Program} {d : Nat} {t i : TypeId} {n : Nat} (hu : P.underlying t = some (.array n i)) (hi : P.underlying i = some (.int .i64)) {xs : List AV} (h : Shaped P d t xs) : ∃ l : List Int, l.length = n ∧ xs = cI l := by
  cases d with
  | zero => exact h.elim
  | succ d =>
    unfold Shaped at h
    rw [hu] at h
    obtain ⟨parts, rfl, hl, hp⟩ := h
    obtain ⟨ns, h3, h4⟩ := ints_of hi parts hp
    exact ⟨ns, by rw [← h3]; simpa using hl, h4⟩
theorem parts_I {n : Nat} : ∀ {parts : List (List AV)}, (∀ p ∈ parts, ∃ l : List Int, l.length = n ∧ p = cI l) → ∃ N : List Int, N.length = n * parts.length ∧ parts.flatten = cI N
  | [], _ => ⟨[], rfl, rfl⟩
  | p :: parts, h => by
    obtain ⟨l, h0, rfl⟩ := h p (List.mem_cons_self ..)
    obtain ⟨N, h1, h2⟩ := parts_I (fun q hq => h q (List.mem_cons_of_mem _ hq))
    exact ⟨l ++ N, by rw [List.length_append, h0, h1, List.length_cons, Nat.mul_succ, Nat.add_comm], by rw [cI_app, List.flatten_cons, h2]⟩
theorem parts_B : ∀ {parts : List (List AV)}, (∀ p ∈ parts, ∃ b, p = [AV.bool b]) → ∃ A : List Bool, A.length = parts.length ∧ parts.flatten = cB A
  | [], _ => ⟨[], rfl, rfl⟩
  | p :: parts, h => by
    obtain ⟨b, rfl⟩ := h p (List.mem_cons_self ..)
    obtain ⟨A, h1, h2⟩ := parts_B (fun q hq => h q (List.mem_cons_of_mem _ hq))
    exact ⟨b :: A, by simp [h1], by simp [cB, h2]⟩
end Go.Proofs.YtmcbfbpdfbcakaaDoor.A
/- Arguments that read are data: machines, raw expressions. -/
namespace Go.Proofs.YtmcbfbpdfbcakaaDoor.A
open Go
set_option maxRecDepth 20000
/-! ### a machine that came in -/
theorem shaped_three {P : Program} {d : Nat} {t i : TypeId} {fs : Array Field} (hu : P.underlying t = some (.struct fs)) (hf : fs.toList.map (·.type) = [i, i, i]) (hi : P.underlying i = some (.int .i64)) {xs : List AV} (h : Shaped P d t xs) : ∃ a b c, xs = [.int .i64 a, .int .i64 b, .int .i64 c] := by
  obtain ⟨d', parts, rfl, hl, hp⟩ := shaped_fields hu h
  have hl3 : fs.toList.length = 3 := by have := congrArg List.length hf; simpa using this
  match hfs : fs.toList, hl3 with
  | [f1, f2, f3], _ =>
    rw [hfs] at hl hp hf
    simp only [List.map_cons, List.map_nil, List.cons.injEq, and_true] at hf
    obtain ⟨e1, e2, e3⟩ := hf
    match parts, hl with
    | [p1, p2, p3], _ =>
      obtain ⟨a, rfl⟩ := shaped_int hi (e1 ▸ hp 0 f1 p1 rfl rfl)
      obtain ⟨b, rfl⟩ := shaped_int hi (e2 ▸ hp 1 f2 p2 rfl rfl)
      obtain ⟨c, rfl⟩ := shaped_int hi (e3 ▸ hp 2 f3 p3 rfl rfl)
      exact ⟨a, b, c, rfl⟩
theorem shaped_two {P : Program} {d : Nat} {t i : TypeId} (hu : P.underlying t = some (.array 2 i)) (hi : P.underlying i = some (.int .i64)) {xs : List AV} (h : Shaped P d t xs) : ∃ a b, xs = [.int .i64 a, .int .i64 b] := by
  cases d with
  | zero => exact h.elim
  | succ d =>
    unfold Shaped at h
    rw [hu] at h
    obtain ⟨parts, rfl, hl, hp⟩ := h
    match parts, hl with
    | [p1, p2], _ =>
      obtain ⟨a, rfl⟩ := shaped_int hi (hp p1 (by simp))
      obtain ⟨b, rfl⟩ := shaped_int hi (hp p2 (by simp))
      exact ⟨a, b, rfl⟩
theorem parts_S : ∀ {parts : List (List AV)}, (∀ p ∈ parts, ∃ a b c, p = [.int .i64 a, .int .i64 b, .int .i64 c]) → ∃ ss : List (Int × Int × Int), ss.length = parts.length ∧ parts.flatten = cS ss
  | [], _ => ⟨[], rfl, rfl⟩
  | p :: parts, h => by
    obtain ⟨a, b, c, rfl⟩ := h p (List.mem_cons_self ..)
    obtain ⟨ss, h1, h2⟩ := parts_S (fun q hq => h q (List.mem_cons_of_mem _ hq))
    exact ⟨(a, b, c) :: ss, by simp [h1], by simp [cS, h2]⟩
theorem parts_P : ∀ {parts : List (List AV)}, (∀ p ∈ parts, ∃ a b, p = [.int .i64 a, .int .i64 b]) → ∃ ss : List (Int × Int), ss.length = parts.length ∧ parts.flatten = cP ss
  | [], _ => ⟨[], rfl, rfl⟩
  | p :: parts, h => by
    obtain ⟨a, b, rfl⟩ := h p (List.mem_cons_self ..)
    obtain ⟨ss, h1, h2⟩ := parts_P (fun q hq => h q (List.mem_cons_of_mem _ hq))
    exact ⟨(a, b) :: ss, by simp [h1], by simp [cP, h2]⟩
/-! ### raw expressions that came in -/
theorem shaped_slice' {P : Program} {d : Nat} {t e : TypeId} (hu : P.underlying t = some (.slice e)) {xs : List AV} (h : Shaped P d t xs) : ∃ (d' : Nat) (parts : List (List AV)), d' < d ∧ xs = [.sl parts.length parts.flatten] ∧ parts.length ≤ maxLen ∧ ∀ p ∈ parts, Shaped P d' e p := by
  cases d with
  | zero => exact h.elim
  | succ d =>
    unfold Shaped at h
    rw [hu] at h
    obtain ⟨parts, h1, h2, h3⟩ := h
    exact ⟨d, parts, Nat.lt_succ_self d, h1, h2, h3⟩
theorem shaped_fields' {P : Program} {d : Nat} {t : TypeId} {fs : Array Field} (hu : P.underlying t = some (.struct fs)) {xs : List AV} (h : Shaped P d t xs) : ∃ (d' : Nat) (parts : List (List AV)), d' < d ∧ xs = parts.flatten ∧ parts.length = fs.toList.length ∧ ∀ (i : Nat) (f : Field) (p : List AV), fs.toList[i]? = some f → parts[i]? = some p → Shaped P d' f.type p := by
  cases d with
  | zero => exact h.elim
  | succ d =>
    unfold Shaped at h
    rw [hu] at h
    obtain ⟨parts, h1, h2, h3⟩ := h
    exact ⟨d, parts, Nat.lt_succ_self d, h1, by simpa using h2, fun i f p hf hp => h3 i f p (by simpa using hf) hp⟩
theorem parts_R : ∀ {parts : List (List AV)}, (∀ p ∈ parts, ∃ r, p = cRw r) → ∃ l : List Rw, l.length = parts.length ∧ parts.flatten = cRws l
  | [], _ => ⟨[], rfl, by rw [cRws_nil]; rfl⟩
  | p :: parts, h => by
    obtain ⟨r, rfl⟩ := h p (List.mem_cons_self ..)
    obtain ⟨l, h1, h2⟩ := parts_R (fun q hq => h q (List.mem_cons_of_mem _ hq))
    exact ⟨r :: l, by simp [h1], by rw [cRws_cons, List.flatten_cons, h2]⟩
theorem shaped_raw : ∀ (d : Nat) (xs : List AV), Shaped Tryd.prog d 56 xs → ∃ r, xs = cRw r := by
  have hu : Tryd.prog.underlying 56 = some (.struct (fieldsOf 56)) := by kernel_rfl
  have hi : Tryd.prog.underlying 3 = some (.int .i64) := by kernel_rfl
  have hf : (fieldsOf 56).toList.map (·.type) = [3, 3, 22] := by kernel_rfl
  have hsl : Tryd.prog.underlying 22 = some (.slice 56) := by kernel_rfl
  intro d
  induction d using Nat.strongRecOn with
  | ind d ih =>
    intro xs h
    obtain ⟨d', parts, hd, rfl, hl, hp⟩ := shaped_fields' hu h
    generalize fieldsOf 56 = fl at *
    have hl3 : fl.toList.length = 3 := by have := congrArg List.length hf; simpa using this
    match hfl : fl.toList, hl3 with
    | [f1, f2, f3], _ =>
      rw [hfl] at hl hp hf
      simp only [List.map_cons, List.map_nil, List.cons.injEq, and_true] at hf
      obtain ⟨e1, e2, e3⟩ := hf
      match parts, hl with
      | [p1, p2, p3], _ =>
        obtain ⟨a, rfl⟩ := shaped_int hi (e1 ▸ hp 0 f1 p1 rfl rfl)
        obtain ⟨b, rfl⟩ := shaped_int hi (e2 ▸ hp 1 f2 p2 rfl rfl)
        obtain ⟨d4, q4, hd4, rfl, _, h4⟩ := shaped_slice' hsl (e3 ▸ hp 2 f3 p3 rfl rfl)
        obtain ⟨l, s1, s2⟩ := parts_R (fun p hp => ih d4 (by omega) p (h4 p hp))
        exact ⟨.mk a b l, by rw [cRw_mk, slR, s1, s2.symm]; rfl⟩
theorem arg_raws {x : AV} (h : ArgOf Tryd.prog 22 x) : ∃ l, x = slR l := by
  have hsl : Tryd.prog.underlying 22 = some (.slice 56) := by kernel_rfl
  unfold ArgOf at h
  rw [hsl] at h
  obtain ⟨d, h⟩ := h
  obtain ⟨d4, q4, _, e, _, h4⟩ := shaped_slice' hsl h
  obtain ⟨l, s1, s2⟩ := parts_R (fun p hp => shaped_raw d4 p (h4 p hp))
  injection e with e _
  exact ⟨l, by rw [e, slR, s1, s2]⟩
end Go.Proofs.YtmcbfbpdfbcakaaDoor.A
/- A node that came in. -/
namespace Go.Proofs.YtmcbfbpdfbcakaaDoor.A
open Go
set_option maxRecDepth 20000
theorem parts_N : ∀ {parts : List (List AV)}, (∀ p ∈ parts, ∃ r, p = cNd r) → ∃ l : List Nd, l.length = parts.length ∧ parts.flatten = cNds l
  | [], _ => ⟨[], rfl, by rw [cNds_nil]; rfl⟩
  | p :: parts, h => by
    obtain ⟨r, rfl⟩ := h p (List.mem_cons_self ..)
    obtain ⟨l, h1, h2⟩ := parts_N (fun q hq => h q (List.mem_cons_of_mem _ hq))
    exact ⟨r :: l, by simp [h1], by rw [cNds_cons, List.flatten_cons, h2]⟩
theorem shaped_node : ∀ (d : Nat) (xs : List AV), Shaped Tryd.prog d 29 xs → ∃ r, xs = cNd r := by
  have hu : Tryd.prog.underlying 29 = some (.struct (fieldsOf 29)) := by kernel_rfl
  have hi : Tryd.prog.underlying 3 = some (.int .i64) := by kernel_rfl
  have hf : (fieldsOf 29).toList.map (·.type) = [3, 3, 3, 3, 27] := by kernel_rfl
  have hsl : Tryd.prog.underlying 27 = some (.slice 29) := by kernel_rfl
  intro d
  induction d using Nat.strongRecOn with
  | ind d ih =>
    intro xs h
    obtain ⟨d', parts, hd, rfl, hl, hp⟩ := shaped_fields' hu h
    generalize fieldsOf 29 = fl at *
    have hl5 : fl.toList.length = 5 := by have := congrArg List.length hf; simpa using this
    match hfl : fl.toList, hl5 with
    | [f1, f2, f3, f4, f5], _ =>
      rw [hfl] at hl hp hf
      simp only [List.map_cons, List.map_nil, List.cons.injEq, and_true] at hf
      obtain ⟨e1, e2, e3, e4, e5⟩ := hf
      match parts, hl with
      | [p1, p2, p3, p4, p5], _ =>
        obtain ⟨a, rfl⟩ := shaped_int hi (e1 ▸ hp 0 f1 p1 rfl rfl)
        obtain ⟨b, rfl⟩ := shaped_int hi (e2 ▸ hp 1 f2 p2 rfl rfl)
        obtain ⟨c, rfl⟩ := shaped_int hi (e3 ▸ hp 2 f3 p3 rfl rfl)
        obtain ⟨e, rfl⟩ := shaped_int hi (e4 ▸ hp 3 f4 p4 rfl rfl)
        obtain ⟨d4, q4, hd4, rfl, _, h4⟩ := shaped_slice' hsl (e5 ▸ hp 4 f5 p5 rfl rfl)
        obtain ⟨l, s1, s2⟩ := parts_N (fun p hp => ih d4 (by omega) p (h4 p hp))
        exact ⟨.mk a b c e l, by rw [cNd_mk, slN, s1, s2.symm]; rfl⟩
theorem arg_node {x : AV} (h : ArgOf Tryd.prog 29 x) : ∃ n, x = nodeV n := by
  have hu : Tryd.prog.underlying 29 = some (.struct (fieldsOf 29)) := by kernel_rfl
  unfold ArgOf at h
  rw [hu] at h
  obtain ⟨d, xs, rfl, h⟩ := h
  obtain ⟨n, rfl⟩ := shaped_node d xs h
  exact ⟨n, rfl⟩
end Go.Proofs.YtmcbfbpdfbcakaaDoor.A
/- A, part 31: contracts on the caller's memory, as relations. -/
namespace Go.Proofs.YtmcbfbpdfbcakaaDoor.A
open Go
abbrev RRel := List AV → AH → AV → AH → Prop
open Classical in
noncomputable def cRel (R : RRel) (args : List AV) (H : AH) : Option (AV × AH) := if h : ∃ p : AV × AH, R args H p.1 p.2 then some h.choose else none
theorem cRel_some {R : RRel} {args H v H'} (h : cRel R args H = some (v, H')) : R args H v H' := by
  unfold cRel at h
  split at h
  · rename_i e
    have := e.choose_spec
    injection h with h
    rw [h] at this
    exact this
  · cases h
theorem cRel_call {R : RRel} {args : List AV} {H : AH} {K : AV × AH → Prop} (h1 : ∃ v H', R args H v H') (h2 : ∀ v H', R args H v H' → K (v, H')) : wO (Option.map (fun p => freezeR false p.1 p.2) (cRel R args H)) K := by
  obtain ⟨v, H', h⟩ := h1
  have e : ∃ p : AV × AH, R args H p.1 p.2 := ⟨(v, H'), h⟩
  have e2 : cRel R args H = some e.choose := by unfold cRel; rw [dif_pos e]
  rw [e2]
  exact h2 _ _ e.choose_spec
theorem runPR_of_WP {E : Env} {cr : CallR} {k : Nat} {nz : Nat → Option (List (Nat × Nat))} {fn : Func} {c : Code} {args : List AV} {o : Ob} {nx : Nat} {Post : AV → Ob → Nat → Prop} (hb : fn.body = some c)
    (h : WP E cr k nz c (begin_ args) o nx (fun u a o' nx' => (u = .normal ∨ u = .ret) ∧ wO (resultsL E.P a ⟨o', nx'⟩ fn.results.toList) (fun vs => Post (tup1 vs) o' nx'))) :
    ∃ v H', runP E cr k nz fn args ⟨o, nx⟩ = some (v, H') ∧ Post v H'.o H'.nx := by
  unfold WP at h
  unfold runP
  rw [hb]
  dsimp only
  cases he : evalP E (fun _ _ => none) cr k nz none c (begin_ args) ⟨o, nx⟩ with
  | none => rw [he] at h; exact h.elim
  | some p =>
    obtain ⟨u, a, H⟩ := p
    rw [he] at h
    obtain ⟨hu, h⟩ := h
    obtain ⟨vs, h1, h2⟩ : ∃ vs, resultsL E.P a H fn.results.toList = some vs ∧ Post (tup1 vs) H.o H.nx := by
      unfold wO at h
      split at h
      · rename_i vs e; exact ⟨vs, e, h⟩
      · exact h.elim
    rcases hu with rfl | rfl
    · dsimp only
      refine ⟨tup1 vs, H, ?_, h2⟩
      show (resultsL E.P a H fn.results.toList).map _ = _
      rw [show resultsL E.P a H fn.results.toList = some vs from h1]; rfl
    · dsimp only
      refine ⟨tup1 vs, H, ?_, h2⟩
      show (resultsL E.P a H fn.results.toList).map _ = _
      rw [show resultsL E.P a H fn.results.toList = some vs from h1]; rfl
theorem okR_of_WP {E : Env} {cr : CallR} (hX : CPSound E.P E.ext) (hR : CRSound E.P cr ∧ Up cr) (hm : E.P.follows .mixedOrders = true) {k : Nat} {nz : Nat → Option (List (Nat × Nat))} {fn : Func} {f : FuncId} {args : List AV} {o : Ob} {nx : Nat} {Post : AV → Ob → Nat → Prop} (hf : E.P.funcs[f]? = some fn)
    (hl : lookedAt E nz args.length fn = true) (hb : fn.body = some (fn.body.getD .skip))
    (h : WP E cr k nz (fn.body.getD .skip) (begin_ args) o nx (fun u a o' nx' => (u = .normal ∨ u = .ret) ∧ wO (resultsL E.P a ⟨o', nx'⟩ fn.results.toList) (fun vs => Post (tup1 vs) o' nx'))) : ∃ v H', OkR E.P f args ⟨o, nx⟩ v H' ∧ Post v H'.o H'.nx := by
  obtain ⟨v, H', h1, h2⟩ := runPR_of_WP hb h
  exact ⟨v, H', okR_run hX hR.1 hR.2 hm hf hl h1, h2⟩
end Go.Proofs.YtmcbfbpdfbcakaaDoor.A
/- A, part 32: loops, round by round. -/
namespace Go.Proofs.YtmcbfbpdfbcakaaDoor.A
open Go
section
variable (E : Env) (cr : CallR) (k : Nat) (nz : Nat → Option (List (Nat × Nat)))
/-- A loop of n rounds at most. -/
def WPL (n : Nat) (c : Code) (a : AAct) (o : Ob) (nx : Nat) (Q : WPost) : Prop :=
  match iter (evalP E (fun _ _ => none) cr k nz none c) n a ⟨o, nx⟩ with
  | some (u, a', H') => Q u a' H'.o H'.nx
  | none => False
def loopQ (n : Nat) (c : Code) (Q : WPost) : WPost := fun u a o nx => match u with
  | .normal => WPL E cr k nz n c a o nx Q
  | u => Q u a o nx
end
section
variable {E : Env} {cr : CallR} {k : Nat} {nz : Nat → Option (List (Nat × Nat))}
theorem loopQ_normal (n c) (Q : WPost) (a o nx) : loopQ E cr k nz n c Q .normal a o nx = WPL E cr k nz n c a o nx Q := rfl
theorem loopQ_ret (n c) (Q : WPost) (a o nx) : loopQ E cr k nz n c Q .ret a o nx = Q .ret a o nx := rfl
theorem loopQ_exit (n c) (Q : WPost) (i a o nx) : loopQ E cr k nz n c Q (.exit i) a o nx = Q (.exit i) a o nx := rfl
theorem loopQ_goto (n c) (Q : WPost) (i a o nx) : loopQ E cr k nz n c Q (.goto i) a o nx = Q (.goto i) a o nx := rfl
theorem WPL_succ (n : Nat) (c : Code) (a o nx) (Q : WPost) : WPL E cr k nz (n + 1) c a o nx Q = WP E cr k nz c a o nx (loopQ E cr k nz n c Q) := by
  unfold WPL WP
  simp only [iter]
  cases evalP E (fun _ _ => none) cr k nz none c a ⟨o, nx⟩ with
  | none => rfl
  | some p =>
    obtain ⟨u, a', H'⟩ := p
    cases u <;> rfl
theorem WP_loop_eq (c : Code) (a o nx) (Q : WPost) : WP E cr k nz (.loop c) a o nx Q = WPL E cr k nz k c a o nx Q := by
  unfold WPL WP
  simp only [evalP]
  all_goals rfl
end
end Go.Proofs.YtmcbfbpdfbcakaaDoor.A
/- A, part 33: a law's row that lists variables, from its contract. -/
namespace Go.Proofs.YtmcbfbpdfbcakaaDoor.A
open Go Go.ChangeShapes
theorem laidMetH_plain {P : Program} {L : List (String × DataW Unit)} (h : (L.filter fun x => x.2.handleName?.isSome) = []) (w : World) : laidMetH P L w = laidMet P L w := by
  unfold laidMetH
  rw [h]
theorem laidVars_at {P : Program} {w : World} {n : String} {d : DataW Unit} : ∀ {L : List (String × DataW Unit)} {ps : List MemPlace}, DataW.LaidVars P w L ps → (n, d) ∈ L →
    ∃ g t cs fuel p, P.globalNamed n = some g ∧ (P.globals[g]?).map (·.type) = some t ∧ w.var? P n = some cs ∧ DataW.trod (fun _ => ()) P w 0 (fun _ => true) false fuel t cs.toList = some (d, p)
  | [], _, _, h => by cases h
  | (m, e) :: L, ps, hv, h => by
    obtain ⟨g, t, cs, fuel, p, q, h1, h2, h3, h4, h5, _⟩ := hv
    rcases List.mem_cons.1 h with e1 | h
    · injection e1 with e1 e2
      subst e1 e2
      exact ⟨g, t, cs, fuel, p, h1, h2, h3, h4⟩
    · exact laidVars_at h5 h
theorem var_heap {P : Program} {w : World} {n : String} {g : Nat} {cs : Array Value} (hg : P.globalNamed n = some g) (h : w.var? P n = some cs) : ∃ t m, w.heap[g]? = some (.cells cs t m) := by
  unfold World.var? at h
  rw [hg] at h
  simp only [Option.bind_some] at h
  split at h
  · rename_i e
    injection h with h
    subst h
    exact ⟨_, _, e⟩
  · cases h
theorem law_laid {H : Type} {enc : TypeId × Value → H} {as_ : Assume} {C : Checked} {os : Os} {f : FuncId} {fn : Func} {s : ChangeSpec} {conds : List PathCond} {apart fresh handsOn again : Bool} {L : List (String × DataW Unit)} (hnoh : (L.filter fun x => x.2.handleName?.isSome) = [])
    (own : ownKnob C.prog.godebug = none) (started : os.Started) (noInit : C.prog.inits.idxOf? f = none) (hfn : C.prog.funcs[f]? = some fn)
    (witness : ∃ (w : World) (tape : Tape) (i : Input), w.os = os ∧ (w.forCall tape i).Shaped C.prog ∧ i.vars = [] ∧ Input.okWide C.prog (w.forCall tape i) .any w.heap.size f i ∧
      ((s.pre enc C.prog fn conds apart (w.forCall tape i).memory i.args ∧ laidMetH C.prog L (w.forCall tape i).memory) ∧ sizedMet enc C.prog fn (OpenSpec.ofChange s) apart (w.forCall tape i).memory i.args) ∧ as_.holds C.prog (lone (Frame.enter C.prog f i.args .normal) [] (w.forCall tape i)))
    (hl : laidOutB C.prog = true) {ks : List TypeId} (hk : dataTypes C.prog ks = true) (hks : fn.params.toList.all (fun t => ks.contains t && C.prog.readableRec t && decide (t < C.prog.types.size)) = true)
    {tb : TypeId} (hr : fn.resultTypes = #[tb]) (htb : C.prog.underlying tb = some .bool) (hv : s.vars = [])
    (hspec : ∀ ds : List (DataW H), ds.length = fn.params.toList.length → (s.fn H ds).results = [.lit (.bool true)] ∧ (s.fn H ds).args = ds ∧ (s.fn H ds).vars = [])
    (hgl : ∀ W, laidMetH C.prog L W → Gl (Old W) W) (hok : ∀ xs, ArgsOf C.prog fn.params.toList xs → Ok C.prog f xs (.bool true)) :
    ReturnsInHanded as_ C os f .any (fun w args => (s.pre enc C.prog fn conds apart w args ∧ laidMetH C.prog L w) ∧ sizedMet enc C.prog fn (OpenSpec.ofChange s) apart w args) (s.post enc C.prog fn apart fresh handsOn again) := by
  have hks' : ∀ t ∈ fn.params.toList, t ∈ ks ∧ C.prog.readableRec t = true ∧ t < C.prog.types.size := fun t ht => by
    have := List.all_eq_true.1 hks t ht
    simp only [Bool.and_eq_true, decide_eq_true_eq, List.contains_iff_mem] at this
    exact ⟨this.1.1, this.1.2, this.2⟩
  refine returnsInHanded_of_change_and (X := fun w _ => laidMetH C.prog L w) (fun w w' _ hh h => by rw [laidMetH_plain hnoh] at h ⊢; exact laidMet.of_heap hh h) own started noInit hfn witness ?_
  intro W base args ds gs before hval hW _ _ hmet _
  have hWc := hW
  obtain ⟨p, q, hA, hV, rfl, hfz, hnd⟩ := hW
  have hlen := trods_length hA
  have hgs : gs = [] := by
    rw [hv] at hV
    exact (trodVars_none hV).1
  subst hgs
  obtain ⟨xs, hx1, hx2⟩ := args_shape hl hk (fun t ht => (hks' t ht).1) (fun j t v ht hv' => hval j t v (by simpa using ht) (by simpa using hv')) hA
  obtain ⟨_, hc⟩ := hok xs hx1
  have := hc (Old W) W args.toList hx2 (fun b hb => hb) (hgl W hmet)
  refine Calls.mono (by simpa using this) ?_
  rintro e W' ⟨v, S', rfl, hb, hpr, _, _⟩
  cases hpr
  refine ⟨_, rfl, law_post hl hWc hv hr htb ?_ (fun t ht => (hks' t ht).2) hb⟩
  rw [List.append_nil]
  exact hspec ds hlen
/-! ### a world whose listed variables are laid -/
def litV : Lit → Value
  | .int k n => .int k n
  | .bool b => .bool b
  | .string s => .string ⟨s.toArray⟩
  | _ => default
def laidCells : DataW Unit → Array Value
  | .agg l => (l.map fun x => match x with | .lit v => litV v | _ => default).toArray
  | .lit v => #[litV v]
  | _ => #[]
/-- Variable k holds these cells. -/
def layW (w : World) (k : Nat) (cells : Array Value) : World := { w with heap := w.heap.modify k fun
  | .cells _ t frozen => .cells cells t frozen
  | o => o }
end Go.Proofs.YtmcbfbpdfbcakaaDoor.A
/- A world whose listed variables are laid; what a tied card asks. -/
namespace Go.Proofs.YtmcbfbpdfbcakaaDoor
open Go Go.Proofs.YtmcbfbpdfbcakaaDoor.A
set_option maxRecDepth 100000
abbrev laidL : List (String × DataW Unit) := [("math/bits.deBruijn32tab", Rows.laid_math_bits_deBruijn32tab), ("math/bits.deBruijn64tab", Rows.laid_math_bits_deBruijn64tab), ("internal/strconv.uint64pow10", Rows.laid_internal_strconv_uint64pow10)]
theorem laidL_noh : (laidL.filter fun x => x.2.handleName?.isSome) = [] := by kernel_rfl
noncomputable def laidWorld (os : Os) : World :=
  layW (layW (layW (World.holding Tryd.prog os ⟨#[], #[], []⟩) ((Tryd.prog.globalNamed "internal/strconv.uint64pow10").getD 0) (laidCells Rows.laid_internal_strconv_uint64pow10)) ((Tryd.prog.globalNamed "math/bits.deBruijn32tab").getD 0) (laidCells Rows.laid_math_bits_deBruijn32tab)) ((Tryd.prog.globalNamed "math/bits.deBruijn64tab").getD 0) (laidCells Rows.laid_math_bits_deBruijn64tab)
theorem laidWorld_met (os : Os) (args : Array Value) : laidMetH Tryd.prog laidL ((laidWorld os).forCall (fun _ _ => 0) ⟨#[], args, []⟩).memory := by
  rw [laidMetH_plain laidL_noh]
  exact laidMet_of_run' 80 (by kernel_rfl) (by kernel_rfl)
theorem laid_gl (W : World) (h : laidMetH Tryd.prog laidL W) : Gl (Old W) W := by
  rw [laidMetH_plain laidL_noh] at h
  obtain ⟨ps, hv, _⟩ := h
  obtain ⟨g, t, cs, fuel, p, h1, h2, h3, h4⟩ := laidVars_at (n := "internal/strconv.uint64pow10") (d := Lib.tabData .u64 Lib.pow10Tab) hv (List.mem_cons_of_mem _ (List.mem_cons_of_mem _ (by rw [show (Lib.tabData .u64 Lib.pow10Tab : DataW Unit) = Rows.laid_internal_strconv_uint64pow10 by kernel_rfl]; exact List.mem_cons_self ..)))
  obtain ⟨ty, m, hh⟩ := var_heap h1 h3
  obtain rfl : 1 = g := Option.some.inj ((show Tryd.prog.globalNamed "internal/strconv.uint64pow10" = some 1 by kernel_rfl).symm.trans h1)
  obtain rfl : 113 = t := Option.some.inj ((show (Tryd.prog.globals[1]?).map (·.type) = some 113 by kernel_rfl).symm.trans h2)
  have hc := Lib.cells_of_tab (e := 107) (n := 20) (by kernel_rfl) (by kernel_rfl) (by kernel_rfl) (by kernel_rfl) h4
  intro x hx
  obtain rfl : x = (1, Lib.pow10Tab.map fun z => Value.int .u64 z) := List.mem_singleton.1 hx
  refine ⟨(Array.getElem?_eq_some_iff.1 hh).1, ty, m, ?_⟩
  rw [hh, ← hc]
theorem wants_all {P : Program} {l : Array TypeId} (h : (l.toList.all fun t => !P.wantsStandIn t) = true) {j : Nat} {t : TypeId} (ht : l[j]? = some t) : P.wantsStandIn t = false := by
  have := List.all_eq_true.1 h t (by
    rw [← Array.getElem?_toList] at ht
    exact List.mem_of_getElem? ht)
  simpa using this
end Go.Proofs.YtmcbfbpdfbcakaaDoor
/- stringslite.IndexByte: where a byte is first met. -/
namespace Go.Proofs.YtmcbfbpdfbcakaaDoor.A
open Go
noncomputable def ren4 : Shelf.Ren := ⟨fun x => if x = 217 then 56 else if x = 266 then 62 else 0, fun x => x, fun x => x⟩
theorem lays4 : Lays.n217 Tryd.prog ren4 where
  mixed := mixed
  f217 := by kernel_rfl
  f266 := by kernel_rfl
  t3 := by kernel_rfl
  a3 := run_isAgg_plain (show Tryd.prog.underlying 3 = some (.int .i64) by kernel_rfl) rfl
  z3 := fun w => by kernel_rfl
  v3 := fun w => by kernel_rfl
  t5 := by kernel_rfl
  a5 := run_isAgg_plain (show Tryd.prog.underlying 5 = some (.int .u8) by kernel_rfl) rfl
  z5 := fun w => by kernel_rfl
  v5 := fun w => by kernel_rfl
  t9 := by kernel_rfl
  a9 := run_isAgg_plain (show Tryd.prog.underlying 9 = some .string by kernel_rfl) rfl
  z9 := fun w => by kernel_rfl
  v9 := fun w => by kernel_rfl
def RIx (args : List AV) (r : AV) : Prop := ∃ (s : List UInt8) (c : Int), args = [.str s, .int .u8 c] ∧ r = .int .i64 (Lib.indexByte s c.toNat.toUInt8)
theorem RIx_ok (args r) (h : RIx args r) : Ok Tryd.prog 56 args r := by
  obtain ⟨s, c, rfl, rfl⟩ := h
  refine ⟨⟨Tryd.f56, Tryd.func56, by kernel_rfl, by kernel_rfl⟩, fun S w cargs ha hS _ => ?_⟩
  obtain ⟨hl, hr⟩ := ha
  match cargs, hl with
  | [u, v], _ =>
    have h0 := hr 0 _ _ rfl rfl
    have h1 := hr 1 _ _ rfl rfl
    cases h0
    cases h1
    refine (Any.stringslite_IndexByte lays4 ⟨s.toArray⟩ c w).mono ?_
    rintro e w' ⟨rfl, rfl⟩
    exact ⟨_, S, rfl, RowKit.Below.refl _ _, .int _ _, fun _ h => h, fun b hb => ⟨.inl hb, hS b hb⟩⟩
end Go.Proofs.YtmcbfbpdfbcakaaDoor.A
/- strings.Join: what it tells. -/
namespace Go.Proofs.YtmcbfbpdfbcakaaDoor.A
open Go
noncomputable def renJn : Shelf.Ren := ⟨fun x => if x = 156 then 54 else if x = 165 then 58 else if x = 166 then 59 else if x = 169 then 60 else if x = 240 then 65 else if x = 241 then 66 else if x = 276 then 71 else if x = 277 then 72 else x, fun x => if x = 31 then 33 else if x = 9 then 9 else if x = 3 then 3 else if x = 4 then 4 else if x = 0 then 0 else if x = 20 then 20 else if x = 72 then 91 else if x = 76 then 95 else if x = 70 then 89 else if x = 37 then 31 else if x = 75 then 94 else if x = 127 then 99 else if x = 164 then 103 else if x = 5 then 5 else if x = 80 then 97 else x, fun x => x⟩
theorem laysJn : Lays.n156 Tryd.prog renJn where
  mixed := mixed
  f156 := Tryd.func54.trans (congrArg some (by kernel_rfl))
  f165 := Tryd.func58.trans (congrArg some (by kernel_rfl))
  f166 := Tryd.func59.trans (congrArg some (by kernel_rfl))
  f169 := Tryd.func60.trans (congrArg some (by kernel_rfl))
  f240 := Tryd.func65.trans (congrArg some (by kernel_rfl))
  f241 := Tryd.func66.trans (congrArg some (by kernel_rfl))
  f276 := Tryd.func71.trans (congrArg some (by kernel_rfl))
  f277 := Tryd.func72.trans (congrArg some (by kernel_rfl))
  t0 := Tryd.underlying0
  a0 := Tryd.isAgg0
  z0 := Tryd.sizeOf0
  v0 := Tryd.zeroValue0
  t3 := Tryd.underlying3
  a3 := Tryd.isAgg3
  z3 := Tryd.sizeOf3
  v3 := Tryd.zeroValue3
  t4 := Tryd.underlying4
  a4 := Tryd.isAgg4
  z4 := Tryd.sizeOf4
  v4 := Tryd.zeroValue4
  t9 := Tryd.underlying9
  a9 := Tryd.isAgg9
  z9 := Tryd.sizeOf9
  v9 := Tryd.zeroValue9
  t20 := Tryd.underlying20
  a20 := Tryd.isAgg20
  z20 := Tryd.sizeOf20
  v20 := Tryd.zeroValue20
  t31 := Tryd.underlying33
  a31 := Tryd.isAgg33
  z31 := Tryd.sizeOf33
  v31 := Tryd.zeroValue33
  t37 := Tryd.underlying31
  a37 := Tryd.isAgg31
  z37 := Tryd.sizeOf31
  v37 := Tryd.zeroValue31
  t70 := Tryd.underlying89
  a70 := Tryd.isAgg89
  z70 := Tryd.sizeOf89
  v70 := Tryd.zeroValue89
  t72 := Tryd.underlying91
  a72 := Tryd.isAgg91
  z72 := Tryd.sizeOf91
  v72 := Tryd.zeroValue91
  t75 := Tryd.underlying94
  a75 := Tryd.isAgg94
  z75 := Tryd.sizeOf94
  v75 := Tryd.zeroValue94
  t76 := Tryd.underlying95
  a76 := Tryd.isAgg95
  z76 := Tryd.sizeOf95
  v76 := Tryd.zeroValue95
  t127 := Tryd.underlying99
  a127 := Tryd.isAgg99
  z127 := Tryd.sizeOf99
  v127 := Tryd.zeroValue99
  t164 := Tryd.underlying103
  a164 := Tryd.isAgg103
  z164 := Tryd.sizeOf103
  v164 := Tryd.zeroValue103
theorem extraJn : Builder.Extra Tryd.prog renJn where
  sizeBuilder := by kernel_rfl
  liesBuilder := by kernel_rfl
  t5 := Tryd.underlying5
  a5 := Tryd.isAgg5
  z5 := Tryd.sizeOf5
  v5 := Tryd.zeroValue5
  infoByte := by kernel_rfl
  cellsByte := by kernel_rfl
  sizeByte := by kernel_rfl
  neB5 := show ¬ (91 : Nat) = 5 by decide
def RJn (args : List AV) (r : AV) : Prop := ∃ (xs : List (List UInt8)) (sep : List UInt8), xs ≠ [] ∧ xs.length ≤ 1000000 ∧ (Lib.join xs sep).length ≤ 1000000 ∧ args = [.sl xs.length (xs.map .str), .str sep] ∧ r = .str (Lib.join xs sep)
theorem RJn_fn : Fun1 RJn := by
  rintro args r r' ⟨xs, sep, _, _, _, rfl, rfl⟩ ⟨xs', sep', _, _, _, h, rfl⟩
  simp only [List.cons.injEq, AV.sl.injEq, AV.str.injEq, and_true] at h
  obtain ⟨⟨_, h1⟩, h2⟩ := h
  have : xs = xs' := List.map_inj_right (fun a b h => by injection h) |>.1 h1
  rw [this, h2]
theorem RJn_ok (args r) (h : RJn args r) : Ok Tryd.prog 54 args r := by
  obtain ⟨xs, sep, hne, hn, hj, rfl, rfl⟩ := h
  refine ⟨⟨Tryd.f54, Tryd.func54, by kernel_rfl, by kernel_rfl⟩, fun S w cargs ha hS _ => ?_⟩
  obtain ⟨hl, hr⟩ := ha
  match cargs, hl with
  | [u, v], _ =>
    have h0 := hr 0 _ _ rfl rfl
    have h1 := hr 1 _ _ rfl rfl
    cases h1
    cases h0 with
    | sl n cs A cap uu hcap hA hb hc h1 h =>
      have hne' : xs.map AV.str ≠ [] := by simpa using hne
      obtain ⟨a, rfl, hSa⟩ := hb hne'
      have hxs : (xs.map fun l => (⟨l.toArray⟩ : ByteArray)).map (·.data.toList) = xs := by simp [Function.comp_def]
      have hcell : ∀ (j : Nat) (l : List UInt8), xs[j]? = some l → w.cell? (a.add j) = some (.string ⟨l.toArray⟩) := fun j l hj => by
        have hg : (xs.map AV.str)[j]? = some (.str l) := by simp [hj]
        rw [hc a j _ rfl hg]
        have := h j _ hg
        generalize uu j = q at this
        cases this
        rfl
      obtain ⟨x0, hx0⟩ : ∃ x0, xs[0]? = some x0 := by
        cases xs with
        | nil => exact absurd rfl hne
        | cons x l => exact ⟨x, rfl⟩
      have hspot : a = ⟨a.block, a.off, none⟩ := by
        have h00 := hcell 0 x0 hx0
        obtain ⟨b, off, spot⟩ := a
        cases spot with
        | none => rfl
        | some s =>
          unfold World.cell? Addr.add at h00
          simp at h00
          split at h00 <;> simp at h00
      have hadd : ∀ j, a.add j = ⟨a.block, a.off + j, none⟩ := fun j => by
        rw [hspot]
        unfold Addr.add
        by_cases h : j = 0 <;> simp [h]
      have := Any.strings_Join laysJn extraJn a.block a.off cap (xs.map fun l => (⟨l.toArray⟩ : ByteArray)) ⟨sep.toArray⟩ w (fun j x hx => by
        obtain ⟨l, hl, rfl⟩ : ∃ l, xs[j]? = some l ∧ (⟨l.toArray⟩ : ByteArray) = x := by simpa using hx
        rw [← hadd j]
        exact hcell j l hl) (hS _ hSa) (by simp; omega) (by simpa using hcap) (by rw [hxs]; simpa using (show (Lib.join xs sep).length ≤ 140737488355328 by omega))
      rw [hxs, hspot.symm, List.length_map] at this
      refine this.mono ?_
      rintro e w' ⟨rfl, hbl⟩
      refine ⟨_, S, rfl, hbl, ?_, fun _ h => h, fun b hb => ⟨.inl hb, ?_⟩⟩
      · exact .str _
      · have h5 := hS b hb
        have h6 := hbl.size
        omega
def strsOf : List AV → Option (List (List UInt8))
  | [] => some []
  | .str s :: l => (strsOf l).map (s :: ·)
  | _ => none
theorem strsOf_eq : ∀ {cs : List AV} {xs : List (List UInt8)}, strsOf cs = some xs → cs = xs.map .str
  | [], xs, h => by injection h with h; subst h; rfl
  | .str s :: l, xs, h => by
    simp only [strsOf, Option.map_eq_some_iff] at h
    obtain ⟨ys, h1, rfl⟩ := h
    rw [strsOf_eq h1]
    rfl
  | .und :: _, _, h | .bool _ :: _, _, h | .int _ _ :: _, _, h | .agg _ :: _, _, h | .tup _ :: _, _, h | .nil :: _, _, h | .sl _ _ :: _, _, h | .fptr _ :: _, _, h | .ref _ _ _ _ :: _, _, h | .ptr _ _ _ :: _, _, h | .fn _ _ _ :: _, _, h | .mp _ :: _, _, h | .nilmp :: _, _, h | .nilp :: _, _, h => by cases h
def joinX (args : List AV) : Option AV := match args with
  | [.sl n cs, .str sep] => match strsOf cs with
    | some xs => if n = xs.length ∧ xs ≠ [] ∧ xs.length ≤ 1000000 ∧ (Lib.join xs sep).length ≤ 1000000 then some (.str (Lib.join xs sep)) else none
    | none => none
  | _ => none
theorem joinX_ok (args r) (h : joinX args = some r) : Ok Tryd.prog 54 args r := by
  unfold joinX at h
  split at h
  · rename_i n cs sep
    split at h
    · rename_i xs hx
      split at h
      · rename_i hc
        obtain ⟨rfl, h1, h2, h3⟩ := hc
        injection h with h
        exact RJn_ok _ _ ⟨xs, sep, h1, h2, h3, by rw [strsOf_eq hx], h.symm⟩
      · cases h
    · cases h
  · cases h
end Go.Proofs.YtmcbfbpdfbcakaaDoor.A
/- law4's 'known' answers true: one run by the kernel. -/
namespace Go.Proofs.YtmcbfbpdfbcakaaDoor.A
open Go
def mode4 (f : FuncId) : Mode := if f = 56 then .ext true else if f = 54 then .ext true else if f ∈ [55, 61, 67, 73, 26, 37, 48, 49, 38, 47, 23, 25, 45, 53, 44] then .pure true else if f ∈ [35, 18, 41] then .pure false else .raw false
def ext4 : FuncId → List AV → Option AV := fun f args => if f = 56 then (match args with | [.str s, .int .u8 c] => some (.int .i64 (Lib.indexByte s c.toNat.toUInt8)) | _ => none) else if f = 54 then joinX args else none
noncomputable def E4 : Env := { P := Tryd.prog, mode := mode4, ext := ext4 }
theorem ext4_ok : CPSound Tryd.prog ext4 := by
  intro g args r h
  unfold ext4 at h
  split at h
  · rename_i e
    subst e
    split at h
    · rename_i s c
      injection h with h
      subst h
      exact RIx_ok _ _ ⟨s, c, rfl, rfl⟩
    · cases h
  · split at h
    · rename_i e
      subst e
      exact joinX_ok _ _ h
    · cases h
theorem known4_run : (calls E4 60).1 13 [] = some (.bool true) := by kernel_rfl
theorem known4_ok : Ok Tryd.prog 13 [] (.bool true) := ok_calls (E := E4) ext4_ok mixed known4_run
end Go.Proofs.YtmcbfbpdfbcakaaDoor.A
/- The table of contracts for the closed laws of expressions. -/
namespace Go.Proofs.YtmcbfbpdfbcakaaDoor.A
open Go
def RKn4 (args : List AV) (r : AV) : Prop := args = [] ∧ r = .bool true
theorem RKn4_fn : Fun1 RKn4 := by rintro args r r' ⟨_, rfl⟩ ⟨_, rfl⟩; rfl
theorem RKn4_ok (args r) (h : RKn4 args r) : Ok Tryd.prog 13 args r := by obtain ⟨rfl, rfl⟩ := h; exact known4_ok
noncomputable def XL4 : FuncId → List AV → Option AV := tabLook [(13, tRel RKn4), (18, (calls E4 1000).1 18), (17, tRel RW)]
theorem XL4_ok : CPSound Tryd.prog XL4 := tab_cons (tab_cons (tab_cons (tab_nil _) (tRel_ok within2_ok)) (fun args r h => ok_calls (E := E4) ext4_ok mixed h)) (tRel_ok RKn4_ok)
theorem XL4_known : XL4 13 [] = some (.bool true) := tRel_eq (R := RKn4) RKn4_fn ⟨rfl, rfl⟩
theorem XL4_within (a n : Int) (h1 : 0 < n) (h2 : n ≤ 1000000) : XL4 17 [.int .i64 a, .int .i64 n] = some (.int .i64 (a % n)) := rw_eq h1 h2
theorem perr_try : XL4 18 [.str [119, 41]] = some (.tup [.agg [.int .i64 0, .int .i64 0, .int .i64 0, .int .i64 0, .sl 0 []], .int .i64 1, .int .i64 3]) := by kernel_rfl
end Go.Proofs.YtmcbfbpdfbcakaaDoor.A
namespace Go.Proofs.YtmcbfbpdfbcakaaDoor.A
open Go
set_option maxRecDepth 20000
def RRt (args : List AV) (r : AV) : Prop := ∃ n, wideN n = true ∧ args = [nodeV n] ∧ r = .bool (rightN n)
theorem RRt_fn : Fun1 RRt := by
  rintro args r r' ⟨n, _, rfl, rfl⟩ ⟨n', _, h, rfl⟩
  simp only [List.cons.injEq, AV.agg.injEq, and_true] at h
  rw [cNd_inj h]
theorem RRt_ok (args r) (h : RRt args r) : Ok Tryd.prog 23 args r := by obtain ⟨n, hw, rfl, rfl⟩ := h; exact right_ok n hw
theorem RRt_rok (args r) (h : RRt args r) : Ok Tryd.prog 24 args r := by obtain ⟨n, hw, rfl, rfl⟩ := h; exact rright_ok n hw
def RFew4 (args : List AV) (r : AV) : Prop := ∃ l, args = [slR l] ∧ r = .bool (fewR l)
theorem RFew4_fn : Fun1 RFew4 := by
  rintro args r r' ⟨x, rfl, rfl⟩ ⟨x', h, rfl⟩
  simp only [List.cons.injEq, AV.sl.injEq, and_true] at h
  rw [cRws_inj h.2]
theorem RFew4_ok (args r) (h : RFew4 args r) : Ok Tryd.prog 14 args r := by obtain ⟨x, rfl, rfl⟩ := h; exact few4_ok x
def ROne4 (args : List AV) (r : AV) : Prop := ∃ l, args = [slR l] ∧ r = nodeV (oneN l)
theorem ROne4_fn : Fun1 ROne4 := by
  rintro args r r' ⟨x, rfl, rfl⟩ ⟨x', h, rfl⟩
  simp only [List.cons.injEq, AV.sl.injEq, and_true] at h
  rw [cRws_inj h.2]
theorem ROne4_ok (args r) (h : ROne4 args r) : Ok Tryd.prog 16 args r := by obtain ⟨x, rfl, rfl⟩ := h; exact one_ok x
noncomputable def XRt (c y : Nd) (a w v : Int) : FuncId → List AV → Option AV := tabLook [(13, tRel RKn4), (14, tRel RFew4), (21, tRel (RFewN 21)), (16, tRel ROne4), (22, tRel (RSp c y a w v)), (23, tRel RRt), (24, tRel RRt)]
theorem lookRight4 (X) : lookedAt (EX md0 X) (fun _ => none) 5 Tryd.f4 = true := by kernel_rfl
theorem right_wp (X : FuncId → List AV → Option AV) (l : List Rw) (n : Nd) (a w v : Int) (hkn : X 13 [] = some (.bool true)) (hfw : X 14 [slR l] = some (.bool (fewR l))) (hfn : X 21 [nodeV n, .int .i64 0] = some (.bool (fewD 21 n)))
    (hon : X 16 [slR l] = some (nodeV (oneN l))) (hrest : fewR l = true → fewD 21 n = true → ∃ y, X 22 [nodeV (oneN l), .int .i64 a, .int .i64 w, .int .i64 v] = some (nodeV y) ∧
      X 23 [nodeV y] = some (.bool (rightN y)) ∧ X 24 [nodeV y] = some (.bool (rightN y)) ∧ X 23 [nodeV n] = some (.bool (rightN n)) ∧ X 24 [nodeV n] = some (.bool (rightN n))) :
    WP (EX md0 X) noR 10 (fun _ => none) (Tryd.f4.body.getD .skip) (begin_ [slR l, nodeV n, .int .i64 a, .int .i64 w, .int .i64 v]) (fun _ => none) 0 (fun u a o nx => (u = .normal ∨ u = .ret) ∧ wO (resultsL Tryd.prog a ⟨o, nx⟩ Tryd.f4.results.toList) (fun vs => view o vDepth (tup1 vs) = .bool true)) := by
  simp only [Tryd.f4, Option.getD_some]
  cases hf : fewR l with
  | false =>
    rw [hf] at hfw
    simp (disch := omega) only [go_sem, ↓IntWalk.iteOmega, IntWalk.toNatUp, Nat.reduceEqDiff, Nat.reduceAdd, Nat.reduceMul, Nat.reduceSub, Nat.reduceLT, Nat.reduceLeDiff, Int.reduceToNat, Int.reduceLT, Int.reduceLE, Int.reduceEq, Int.reduceAdd, Int.reduceSub, Int.reduceMul, Int.toNat_natCast, reduceCtorEq, decide_true, decide_false, IntWalk.i64_in, IntWalk.u64_in, IntWalk.u8_in, hkn, hfw]
  | true =>
    rw [hf] at hfw
    cases hf2 : fewD 21 n with
    | false =>
      rw [hf2] at hfn
      simp (disch := omega) only [go_sem, ↓IntWalk.iteOmega, IntWalk.toNatUp, Nat.reduceEqDiff, Nat.reduceAdd, Nat.reduceMul, Nat.reduceSub, Nat.reduceLT, Nat.reduceLeDiff, Int.reduceToNat, Int.reduceLT, Int.reduceLE, Int.reduceEq, Int.reduceAdd, Int.reduceSub, Int.reduceMul, Int.toNat_natCast, reduceCtorEq, decide_true, decide_false, IntWalk.i64_in, IntWalk.u64_in, IntWalk.u8_in, hkn, hfw, hfn]
    | true =>
      rw [hf2] at hfn
      obtain ⟨y, h1, h2, h3, h4, h5⟩ := hrest hf hf2
      cases hy : rightN y <;> cases hn : rightN n <;> rw [hy] at h2 h3 <;> rw [hn] at h4 h5 <;> simp (disch := omega) only [go_sem, ↓IntWalk.iteOmega, IntWalk.toNatUp, Nat.reduceEqDiff, Nat.reduceAdd, Nat.reduceMul, Nat.reduceSub, Nat.reduceLT, Nat.reduceLeDiff, Int.reduceToNat, Int.reduceLT, Int.reduceLE, Int.reduceEq, Int.reduceAdd, Int.reduceSub, Int.reduceMul, Int.toNat_natCast, reduceCtorEq, decide_true, decide_false, IntWalk.i64_in, IntWalk.u64_in, IntWalk.u8_in, hkn, hfw, hfn, hon, h1, h2, h3, h4, h5]
theorem regexRight_ok (l : List Rw) (n : Nd) (a w v : Int) : Ok Tryd.prog 4 [slR l, nodeV n, .int .i64 a, .int .i64 w, .int .i64 v] (.bool true) := by
  have hkn : ∀ c y, XRt c y a w v 13 [] = some (.bool true) := fun c y => tRel_eq (R := RKn4) RKn4_fn ⟨rfl, rfl⟩
  have hfw : ∀ c y, XRt c y a w v 14 [slR l] = some (.bool (fewR l)) := fun c y => tRel_eq (R := RFew4) RFew4_fn ⟨_, rfl, rfl⟩
  have hfn : ∀ c y, XRt c y a w v 21 [nodeV n, .int .i64 0] = some (.bool (fewD 21 n)) := fun c y => tRel_eq (R := RFewN 21) (RFewN_fn 21) ⟨_, rfl, rfl⟩
  have hon : ∀ c y, XRt c y a w v 16 [slR l] = some (nodeV (oneN l)) := fun c y => tRel_eq (R := ROne4) ROne4_fn ⟨_, rfl, rfl⟩
  have htab : ∀ c y, Ok Tryd.prog 22 [nodeV c, .int .i64 a, .int .i64 w, .int .i64 v] (nodeV y) → CPSound Tryd.prog (XRt c y a w v) := fun c y hok =>
    tab_cons (tab_cons (tab_cons (tab_cons (tab_cons (tab_cons (tab_cons (tab_nil _) (tRel_ok RRt_rok)) (tRel_ok RRt_ok)) (tRel_ok (fun args r h => by obtain ⟨rfl, rfl⟩ := h; exact hok))) (tRel_ok ROne4_ok)) (tRel_ok (fun args r h => by obtain ⟨n, rfl, rfl⟩ := h; exact fewN_ok 21 n (by omega)))) (tRel_ok RFew4_ok)) (tRel_ok RKn4_ok)
  have hrt : ∀ c y x, wideN x = true → XRt c y a w v 23 [nodeV x] = some (.bool (rightN x)) ∧ XRt c y a w v 24 [nodeV x] = some (.bool (rightN x)) := fun c y x hx => ⟨tRel_eq (R := RRt) RRt_fn ⟨_, hx, rfl, rfl⟩, tRel_eq (R := RRt) RRt_fn ⟨_, hx, rfl, rfl⟩⟩
  by_cases hf : fewR l = true
  · obtain ⟨y, hy, hok⟩ := spoilt_ok (oneN l) a w v (oneN_okR hf).2.1
    exact ok_of_WP (E := EX md0 (XRt (oneN l) y a w v)) (cr := noR) (htab _ _ hok) (noR_ok _) mixed (k := 10) Tryd.func4 (lookRight4 _) rfl (right_wp _ l n a w v (hkn _ _) (hfw _ _) (hfn _ _) (hon _ _) (fun _ h2 => ⟨y, tRel_eq (RSp_fn _ _ _ _ _) ⟨rfl, rfl⟩, (hrt _ _ y hy).1, (hrt _ _ y hy).2, (hrt _ _ n (few_wide _ _ h2)).1, (hrt _ _ n (few_wide _ _ h2)).2⟩))
  · obtain ⟨y, hy, hok⟩ := spoilt_ok (.mk 1 1 0 0 []) a w v (by rw [slimN, slimNs]; rfl)
    exact ok_of_WP (E := EX md0 (XRt (.mk 1 1 0 0 []) y a w v)) (cr := noR) (htab _ _ hok) (noR_ok _) mixed (k := 10) Tryd.func4 (lookRight4 _) rfl (right_wp _ l n a w v (hkn _ _) (hfw _ _) (hfn _ _) (hon _ _) (fun h1 _ => absurd h1 hf))
end Go.Proofs.YtmcbfbpdfbcakaaDoor.A

namespace Go.Proofs.YtmcbfbpdfbcakaaDoor
open Go Go.Proofs.YtmcbfbpdfbcakaaDoor.A
set_option maxRecDepth 100000 in
theorem regexRight_lifted (os : Os) (started : os.Started) (H : Type) (enc : TypeId × Value → H) :
    ReturnsInHanded {} Tryd.checked os 4 .any (fun w args => (Rows.regexRightSpec.pre enc Tryd.prog Tryd.f4 [] false w args ∧ laidMetH Tryd.prog laidL w) ∧ sizedMet enc Tryd.prog Tryd.f4 (OpenSpec.ofChange Rows.regexRightSpec) false w args) (Rows.regexRightSpec.post enc Tryd.prog Tryd.f4 false true false false) :=
  law_laid (C := Tryd.checked) (L := laidL) laidL_noh Tryd.own started (by kernel_rfl) Tryd.func4
    (ChangeSpec.witness_at (enc := enc) (C := Tryd.checked) (os := os) (X := fun w _ => laidMetH Tryd.prog laidL w) false (laidWorld os) #[.slice none 0 0, .agg #[.int .i64 0, .int .i64 0, .int .i64 0, .int .i64 0, .slice none 0 0], .int .i64 0, .int .i64 0, .int .i64 0] 8 rfl (by kernel_rfl) (by kernel_rfl) (by kernel_rfl) (by kernel_rfl) (by kernel_rfl) (laidWorld_met os _))
    Tryd.laidOut (ks := [22, 29, 3, 56, 27]) (by kernel_rfl) (by kernel_rfl) (tb := 4) (by kernel_rfl) (by kernel_rfl) rfl
    (fun ds hds => by
      match ds, hds with
      | [_, _, _, _, _], _ => exact ⟨rfl, rfl, rfl⟩)
    laid_gl (fun xs hxs => by
      rw [show Tryd.f4.params.toList = [22, 29, 3, 3, 3] from rfl] at hxs
      match xs, hxs with
      | [x1, x2, x3, x4, x5], ⟨h1, h2, h3, h4, h5, _⟩ =>
        obtain ⟨n1, rfl⟩ := arg_raws h1
        obtain ⟨n2, rfl⟩ := arg_node h2
        obtain ⟨n3, rfl, _⟩ := arg_int (k := .i64) (by kernel_rfl) h3
        obtain ⟨n4, rfl, _⟩ := arg_int (k := .i64) (by kernel_rfl) h4
        obtain ⟨n5, rfl, _⟩ := arg_int (k := .i64) (by kernel_rfl) h5
        exact regexRight_ok n1 n2 n3 n4 n5)
theorem regexRight_row_holds : Rows.RegexRightSaid :=
  OpenClaim.holds_of_wide 4 Tryd.f4 rfl rfl rfl rfl rfl rfl rfl ⟨rfl, rfl, rfl, rfl, rfl⟩ rfl rfl rfl rfl rfl (by kernel_rfl) Tryd.func4 (by kernel_rfl)
    (of_decide_eq_true (by kernel_rfl)) (by unfold Func.isWrapper; first | (rw [if_pos (by decide +kernel)]; kernel_rfl) | (rw [if_neg (by decide +kernel)]; exact ⟨rfl, rfl⟩))
    (fun os started H enc _ => regexRight_lifted os started H enc)
theorem regexRight_card_holds : Rows.RegexRightCardSaid :=
  Claim7.holds_tied_plain_at .later [] [.data, .data, .data] true (true, "252fabc33c00c899ba09f24c312bfa73cda626b39cff52bd3a4e30b2933ed510") false
    regexRight_row_holds (fun _ h => by cases h) (by kernel_rfl) (fun _ h => by cases h) regexRight_row_tie rfl ⟨rfl, rfl⟩ (by kernel_rfl) rfl
    (fun f fn hf hfn => by
      obtain rfl : f = 4 := (Option.some.inj ((show Tryd.prog.funcNamed "milestone/milestonelaw4.RegexRight" = some 4 by kernel_rfl).symm.trans hf)).symm
      obtain rfl : fn = Tryd.f4 := (Option.some.inj (Tryd.func4.symm.trans hfn)).symm
      refine ⟨by kernel_rfl, fun j t ht => ?_⟩
      exact (wants_all (by kernel_rfl : (Tryd.f4.params.toList.all fun t => !Tryd.prog.wantsStandIn t) = true) ht))
    (by kernel_rfl)
end Go.Proofs.YtmcbfbpdfbcakaaDoor
