/- Two machines told apart: pairs in cells; the document's way. -/
import Derived.Test.YtpmjpogcaglphaaDoorME91
import Derived.Test.YtpmjpogcaglphaaDoorME92
import Derived.Test.YtpmjpogcaglphaaDoorME93
import Derived.Test.YtpmjpogcaglphaaDoorME94
import Derived.Test.YtpmjpogcaglphaaDoorME95
import Derived.Test.YtpmjpogcaglphaaDoorME96
import Derived.Test.YtpmjpogcaglphaaDoorME97
import Derived.Test.YtpmjpogcaglphaaDoorME98
import Derived.Test.YtpmjpogcaglphaaDoorME99
set_option linter.unusedVariables false
set_option linter.unusedSimpArgs false
set_option linter.unnecessarySimpa false
namespace Go.Proofs.YtpmjpogcaglphaaDoor.A
open Go
set_option maxRecDepth 20000
/-! ### pairs in cells -/
def cQ (l : List Ent) : List AV := l.flatMap fun e => [.int .i64 (e.x : Nat), .int .i64 (e.y : Nat), .int .i64 e.b, .int .i64 (e.m : Nat)]
@[go_sem] theorem cQ_length (l : List Ent) : (cQ l).length = l.length * 4 := by
  induction l with
  | nil => rfl
  | cons p l ih => simp only [cQ, List.flatMap_cons, List.length_append, List.length_cons, List.length_nil] at ih ⊢; omega
theorem cQ_app (x y) : cQ (x ++ y) = cQ x ++ cQ y := by simp [cQ]
@[go_sem] theorem cQ_ok (l : List Ent) : (cQ l).all cellOk = true := by
  induction l with
  | nil => rfl
  | cons p l ih => simpa [cQ, cellOk] using ih
@[go_sem] theorem view_cQ (o d l) : (cQ l).map (view o d) = cQ l := by
  induction l with
  | nil => rfl
  | cons p l ih => simpa [cQ, view_int] using ih
@[go_sem] theorem tags_cQ (o d l) : (cQ l).flatMap (viewTags o d) = [] := by
  induction l with
  | nil => rfl
  | cons p l ih => simpa [cQ, tags_int] using ih
@[go_sem] theorem cQ_all (l) : (cQ l).take (l.length * 4) = cQ l := take_len (by rw [cQ_length])
theorem cQ_at {l : List Ent} {i : Nat} {e : Ent} (h : l[i]? = some e) : (cQ l).drop (i * 4) = .int .i64 (e.x : Nat) :: .int .i64 (e.y : Nat) :: .int .i64 e.b :: .int .i64 (e.m : Nat) :: cQ (l.drop (i + 1)) := by
  induction l generalizing i with
  | nil => simp at h
  | cons p l ih =>
    cases i with
    | zero =>
      simp at h
      subst h
      rfl
    | succ i =>
      have := ih (i := i) (by simpa using h)
      have e2 : (i + 1) * 4 = i * 4 + 4 := by omega
      rw [e2]
      simpa [cQ] using this
/-! ### ways back -/
structure BackL (l : List Ent) : Prop where
  head : l[0]? = some ent0
  back : ∀ (k : Nat) e, l[k]? = some e → 0 < k → ∃ (j : Nat) (f : Ent), e.b = (j : Int) ∧ j < k ∧ l[j]? = some f ∧ e.w = f.w ++ [e.m]
theorem QMid.backL {N A M B i l c} (h : QMid N A M B i l c) : BackL l := ⟨h.head, fun k e hk hp => by
  obtain ⟨j, f, h1, h2, _, h4, h5⟩ := h.back k e hk hp
  exact ⟨j, f, h1, h2, h4, h5⟩⟩
theorem BackL.case {l : List Ent} (h : BackL l) {k : Nat} {e : Ent} (he : l[k]? = some e) : (e.b < 0 ∧ e.w = []) ∨ ∃ (j : Nat) (f : Ent), e.b = (j : Int) ∧ j < k ∧ l[j]? = some f ∧ e.w = f.w ++ [e.m] := by
  by_cases hk : 0 < k
  · exact .inr (h.back k e he hk)
  · have : k = 0 := by omega
    subst this
    rw [h.head] at he
    injection he with he
    subst he
    exact .inl ⟨by decide, rfl⟩
theorem cQ_get_eq {l l' : List Ent} (h : cQ l = cQ l') {k : Nat} {e e' : Ent} (he : l[k]? = some e) (he' : l'[k]? = some e') : e.b = e'.b ∧ e.m = e'.m := by
  have h1 := cQ_at he
  have h2 := cQ_at he'
  rw [h, h2] at h1
  simp only [List.cons.injEq, AV.int.injEq, true_and] at h1
  exact ⟨h1.2.2.1.symm, by omega⟩
theorem back_word {l l' : List Ent} (hb : BackL l) (hb' : BackL l') (h : cQ l = cQ l') : ∀ (n k : Nat) (e e' : Ent), k < n → l[k]? = some e → l'[k]? = some e' → e.w = e'.w
  | 0, k, _, _, hk, _, _ => by omega
  | n + 1, k, e, e', hk, he, he' => by
    obtain ⟨h1, h2⟩ := cQ_get_eq h he he'
    rcases hb.case he with ⟨a1, a2⟩ | ⟨j, f, a1, a2, a3, a4⟩ <;> rcases hb'.case he' with ⟨b1, b2⟩ | ⟨j', f', b1, b2, b3, b4⟩
    · rw [a2, b2]
    · omega
    · omega
    · have : j = j' := by omega
      subst this
      rw [a4, b4, h2, back_word hb hb' h n j f f' (by omega) a3 b3]
theorem lookWay (X) : lookedAt (EX md0 X) (fun _ => none) 2 Tryd.f50 = true := by kernel_rfl
theorem way_ok {l : List Ent} (hb : BackL l) {i : Nat} {e : Ent} (he : l[i]? = some e) (hl : l.length ≤ 100000000) : Ok Tryd.prog 50 [.sl l.length (cQ l), .int .i64 i] (slI (nL e.w)) := by
  refine ok_of_WP (E := EX md0 (fun _ _ => none)) (cr := noR) (tab_nil _) (noR_ok _) mixed (k := i + 1) Tryd.func50 (lookWay _) rfl ?_
  have hil := (List.getElem?_eq_some_iff.1 he).1
  simp only [Tryd.f50, Option.getD_some]
  simp (disch := omega) only [go_sem, ↓IntWalk.iteOmega, IntWalk.toNatUp, Nat.reduceEqDiff, Nat.reduceAdd, Nat.reduceMul, Nat.reduceSub, Nat.reduceLT, Nat.reduceLeDiff, Int.reduceToNat, Int.reduceLT, Int.reduceLE, Int.reduceEq, Int.reduceAdd, Int.reduceSub, Int.reduceMul, Int.toNat_natCast, reduceCtorEq, decide_true, decide_false, IntWalk.i64_in, IntWalk.u64_in, IntWalk.u8_in]
  refine WP_loop (fun mm a o nx => ∃ (k : Nat) (f : Ent) (u : List Nat) (vO : AV), l[k]? = some f ∧ k ≤ i ∧ mm = k ∧ u.length + k ≤ i ∧ e.w = f.w ++ u ∧ HS 3 1 17 o nx vO u.length (cI (nL u)) ∧ a 0 = .sl l.length (cQ l) ∧ a 1 = .int .i64 k ∧ a 5 = vO) i (by omega) ⟨i, e, [], .nil, he, by omega, rfl, by simp, by simp, HS.nil, by simp (disch := omega) only [go_sem, ↓IntWalk.iteOmega, IntWalk.toNatUp, Nat.reduceEqDiff, Nat.reduceAdd, Nat.reduceMul, Nat.reduceSub, Nat.reduceLT, Nat.reduceLeDiff, Int.reduceToNat, Int.reduceLT, Int.reduceLE, Int.reduceEq, Int.reduceAdd, Int.reduceSub, Int.reduceMul, Int.toNat_natCast, reduceCtorEq, decide_true, decide_false, IntWalk.i64_in, IntWalk.u64_in, IntWalk.u8_in], by simp (disch := omega) only [go_sem, ↓IntWalk.iteOmega, IntWalk.toNatUp, Nat.reduceEqDiff, Nat.reduceAdd, Nat.reduceMul, Nat.reduceSub, Nat.reduceLT, Nat.reduceLeDiff, Int.reduceToNat, Int.reduceLT, Int.reduceLE, Int.reduceEq, Int.reduceAdd, Int.reduceSub, Int.reduceMul, Int.toNat_natCast, reduceCtorEq, decide_true, decide_false, IntWalk.i64_in, IntWalk.u64_in, IntWalk.u8_in], by simp (disch := omega) only [go_sem, ↓IntWalk.iteOmega, IntWalk.toNatUp, Nat.reduceEqDiff, Nat.reduceAdd, Nat.reduceMul, Nat.reduceSub, Nat.reduceLT, Nat.reduceLeDiff, Int.reduceToNat, Int.reduceLT, Int.reduceLE, Int.reduceEq, Int.reduceAdd, Int.reduceSub, Int.reduceMul, Int.toNat_natCast, reduceCtorEq, decide_true, decide_false, IntWalk.i64_in, IntWalk.u64_in, IntWalk.u8_in]⟩ ?_
  rintro mm a o nx ⟨k, f, u, vO, hf, hk, hmm, hul, hw, hO, h0, h1, h5⟩
  subst hmm
  have hkl := (List.getElem?_eq_some_iff.1 hf).1
  have hat := cQ_at hf
  rcases hb.case hf with ⟨a1, a2⟩ | ⟨j, f', a1, a2, a3, a4⟩
  · rw [a2, List.nil_append] at hw
    subst hw
    have a1' : ¬ 0 ≤ f.b := by omega
    have hv := hO.view 1011
    rw [view_cI] at hv
    have hlw := nL_len e.w
    simp (disch := omega) only [go_sem, ↓IntWalk.iteOmega, IntWalk.toNatUp, Nat.reduceEqDiff, Nat.reduceAdd, Nat.reduceMul, Nat.reduceSub, Nat.reduceLT, Nat.reduceLeDiff, Int.reduceToNat, Int.reduceLT, Int.reduceLE, Int.reduceEq, Int.reduceAdd, Int.reduceSub, Int.reduceMul, Int.toNat_natCast, reduceCtorEq, decide_true, decide_false, IntWalk.i64_in, IntWalk.u64_in, IntWalk.u8_in, h0, h1, h5, hat, a1', hv]
    rw [slI, hlw]
  · have a1' : 0 ≤ f.b := by omega
    have hw' : e.w = f'.w ++ (f.m :: u) := by rw [hw, a4, List.append_assoc]; rfl
    have hlu := nL_len u
    rcases hO with ⟨rfl, h6, h7⟩ | ⟨i1, g, rfl, hi1, hro, hrl⟩
    · have hu0 : u = [] := List.length_eq_zero_iff.1 h6
      subst hu0
      simp (disch := omega) only [go_sem, ↓IntWalk.iteOmega, IntWalk.toNatUp, Nat.reduceEqDiff, Nat.reduceAdd, Nat.reduceMul, Nat.reduceSub, Nat.reduceLT, Nat.reduceLeDiff, Int.reduceToNat, Int.reduceLT, Int.reduceLE, Int.reduceEq, Int.reduceAdd, Int.reduceSub, Int.reduceMul, Int.toNat_natCast, reduceCtorEq, decide_true, decide_false, IntWalk.i64_in, IntWalk.u64_in, IntWalk.u8_in, h0, h1, h5, hat, a1']
      exact ⟨j, by omega, j, f', [f.m], _, a3, by omega, rfl, by simp at hul ⊢; omega, hw', .inr ⟨nx + 1, (nx + 1, 19), rfl, by omega, by simp [upd_app, nL, cI], rfl⟩, by rw [a1], rfl⟩
    · have htk : (cI (nL u)).take u.length = cI (nL u) := take_len (by rw [cI_length, nL_len])
      simp (disch := omega) only [go_sem, ↓IntWalk.iteOmega, IntWalk.toNatUp, Nat.reduceEqDiff, Nat.reduceAdd, Nat.reduceMul, Nat.reduceSub, Nat.reduceLT, Nat.reduceLeDiff, Int.reduceToNat, Int.reduceLT, Int.reduceLE, Int.reduceEq, Int.reduceAdd, Int.reduceSub, Int.reduceMul, Int.toNat_natCast, reduceCtorEq, decide_true, decide_false, IntWalk.i64_in, IntWalk.u64_in, IntWalk.u8_in, h0, h1, h5, hat, a1', hro, htk, hlu]
      exact ⟨j, by omega, j, f', f.m :: u, _, a3, by omega, rfl, by simp only [List.length_cons]; omega, hw', .inr ⟨nx + 1, (nx + 1, 19), rfl, by omega, by simp [upd_app, nL, cI], by simp [cI, nL]⟩, by rw [a1], by congr 1; simp only [List.length_cons]; omega⟩
end Go.Proofs.YtpmjpogcaglphaaDoor.A
/- Two machines told apart: the document's Apart. -/
namespace Go.Proofs.YtpmjpogcaglphaaDoor.A
open Go
set_option maxRecDepth 20000
def apV : Option (List Nat) → AV
  | none => .tup [.sl 0 [], .bool false]
  | some w => .tup [slI (nL w), .bool true]
theorem pFar_step {N : List Int} {A : List Bool} {M : List Int} {B : List Bool} {r i : Nat} {l : List Ent} {res : Option (List Nat)} (h : pFar N A M B r i l = some res) : ∃ r', r = r' + 1 ∧ ((l[i]? = none ∧ res = none) ∨ ∃ e, l[i]? = some e ∧ ((A.getD e.x false = B.getD e.y false ∧ pFar N A M B r' (i + 1) (pRow N M i e 5 l) = some res) ∨ (¬ A.getD e.x false = B.getD e.y false ∧ res = some e.w))) := by
  cases r with
  | zero => cases h
  | succ r =>
    refine ⟨r, rfl, ?_⟩
    rw [pFar] at h
    cases hx : l[i]? with
    | none =>
      rw [hx] at h
      injection h with h
      exact .inl ⟨rfl, h.symm⟩
    | some e =>
      rw [hx] at h
      have h : (if A.getD e.x false = B.getD e.y false then pFar N A M B r (i + 1) (pRow N M i e 5 l) else some (some e.w)) = some res := h
      refine .inr ⟨e, rfl, ?_⟩
      by_cases ha : A.getD e.x false = B.getD e.y false
      · rw [if_pos ha] at h
        exact .inl ⟨ha, h⟩
      · rw [if_neg ha] at h
        injection h with h
        exact .inr ⟨ha, h.symm⟩
/-! ### what is seen, row by row -/
def seenRow (k : Nat) (l : List Ent) (x : Nat) : List Bool := (List.range k).map fun y => l.any fun p => p.x == x && p.y == y
theorem seen_len (k l x) : (seenRow k l x).length = k := by simp [seenRow]
theorem seen_at {k : Nat} {l : List Ent} {x y s : Nat} (hy : y < k) : take1 false s ((cB (seenRow k l x)).drop y) = some (.bool (l.any fun p => p.x == x && p.y == y)) := by
  rw [cB_get (by rw [seen_len]; exact hy)]
  unfold seenRow
  rw [List.getD_eq_getElem?_getD, List.getElem?_map, List.getElem?_range hy]
  rfl
theorem seen_set {k : Nat} {l : List Ent} {e : Ent} (hy : e.y < k) : splice (cB (seenRow k l e.x)) e.y [.bool true] = cB (seenRow k (l ++ [e]) e.x) := by
  rw [cB_set _ _ _ (by rw [seen_len]; exact hy)]
  congr 1
  refine List.ext_getElem (by simp [seenRow]) fun i h1 h2 => ?_
  simp only [seenRow, List.getElem_set, List.getElem_map, List.getElem_range, List.any_append, List.any_cons, List.any_nil, Bool.or_false, beq_self_eq_true, Bool.true_and]
  by_cases h : e.y = i
  · rw [if_pos h, h]; simp
  · rw [if_neg h]
    have : (e.y == i) = false := by simpa using h
    rw [this, Bool.or_false]
theorem seen_other {k : Nat} {l : List Ent} {e : Ent} {x : Nat} (hx : x ≠ e.x) : seenRow k (l ++ [e]) x = seenRow k l x := by
  unfold seenRow
  refine List.map_congr_left fun y _ => ?_
  have : (e.x == x) = false := by simpa using fun h : e.x = x => hx h.symm
  simp [List.any_append, this]
theorem seen_nil (k x) : seenRow k [] x = List.replicate k false := by
  refine List.ext_getElem (by simp [seenRow]) fun i h1 h2 => ?_
  simp [seenRow]
def refsM (ρ : Nat → Nat) (k : Nat) (n : Nat) : List AV := (List.range n).map fun x => .ref (ρ x, 31) (ρ x, 31) 0 k
theorem refs_len (ρ k n) : (refsM ρ k n).length = n := by simp [refsM]
theorem refs_at {ρ : Nat → Nat} {k n x s : Nat} (h : x < n) : take1 false s ((refsM ρ k n).drop x) = some (.ref (ρ x, 31) (ρ x, 31) 0 k) := by
  rw [take1_drop (by rw [refs_len]; exact h)]
  simp [refsM]
theorem refs_ext {ρ ρ' : Nat → Nat} {k n : Nat} (h : ∀ x, x < n → ρ x = ρ' x) : refsM ρ k n = refsM ρ' k n := by
  unfold refsM
  exact List.map_congr_left fun x hx => by rw [h x (List.mem_range.1 hx)]
theorem refs_succ (ρ k n) : refsM ρ k (n + 1) = refsM ρ k n ++ [.ref (ρ n, 31) (ρ n, 31) 0 k] := by simp [refsM, List.range_succ]
structure SeenAt (o : Ob) (nx n k : Nat) (ρ : Nat → Nat) (l : List Ent) : Prop where
  row : o (2, 19) = some (.row ⟨25, 1, (2, 19), false, true, refsM ρ k n⟩)
  rows : ∀ x, x < n → ρ x < nx ∧ o (ρ x, 31) = some (.row ⟨4, 1, (ρ x, 31), false, true, cB (seenRow k l x)⟩)
  inj : ∀ x y, x < n → y < n → ρ x = ρ y → x = y
theorem SeenAt.keep {o nx n k ρ l} (h : SeenAt o nx n k ρ l) {o' : Ob} {nx' : Nat} (h2 : 3 ≤ nx) (hk : ∀ i j, i < nx → (j = 19 ∨ j = 31) → o' (i, j) = o (i, j)) (hn : nx ≤ nx') : SeenAt o' nx' n k ρ l :=
  ⟨by rw [hk 2 19 (by omega) (.inl rfl)]; exact h.row, fun x hx => by
    obtain ⟨h3, h4⟩ := h.rows x hx
    exact ⟨by omega, by rw [hk _ 31 h3 (.inr rfl)]; exact h4⟩, h.inj⟩
theorem SeenAt.add {o nx n k ρ l} (h : SeenAt o nx n k ρ l) {e : Ent} (hx : e.x < n) {o' : Ob} (hr : o' (2, 19) = o (2, 19)) (h1 : o' (ρ e.x, 31) = some (.row ⟨4, 1, (ρ e.x, 31), false, true, cB (seenRow k (l ++ [e]) e.x)⟩)) (h2 : ∀ i, i < nx → i ≠ ρ e.x → o' (i, 31) = o (i, 31)) {nx' : Nat} (hn : nx ≤ nx') : SeenAt o' nx' n k ρ (l ++ [e]) :=
  ⟨by rw [hr]; exact h.row, fun x hxn => by
    obtain ⟨h3, h4⟩ := h.rows x hxn
    by_cases hxe : x = e.x
    · subst hxe
      exact ⟨by omega, h1⟩
    · exact ⟨by omega, by rw [h2 _ h3 (fun hc => hxe (h.inj x e.x hxn hx hc)), seen_other hxe]; exact h4⟩, h.inj⟩
def RWay (args : List AV) (r : AV) : Prop := ∃ (l : List Ent) (i : Nat) (e : Ent), BackL l ∧ l[i]? = some e ∧ l.length ≤ 100000000 ∧ args = [.sl l.length (cQ l), .int .i64 i] ∧ r = slI (nL e.w)
theorem RWay_fn : Fun1 RWay := by
  rintro args r r' ⟨l, i, e, h1, h2, _, rfl, rfl⟩ ⟨l', i', e', h1', h2', _, h, rfl⟩
  simp only [List.cons.injEq, AV.sl.injEq, AV.int.injEq, true_and, and_true] at h
  obtain ⟨⟨_, h3⟩, h4⟩ := h
  have : i = i' := by omega
  subst this
  rw [back_word h1 h1' h3 (i + 1) i e e' (by omega) h2 h2']
theorem RWay_ok (args r) (h : RWay args r) : Ok Tryd.prog 50 args r := by obtain ⟨l, i, e, h1, h2, h3, rfl, rfl⟩ := h; exact way_ok h1 h2 h3
noncomputable def XWay : FuncId → List AV → Option AV := tabLook [(50, tRel RWay)]
theorem XWay_ok : CPSound Tryd.prog XWay := tab_cons (tab_nil _) (tRel_ok RWay_ok)
theorem XWay_eq {l : List Ent} (hb : BackL l) {i : Nat} {e : Ent} (he : l[i]? = some e) (hl : l.length ≤ 100000000) : XWay 50 [.sl l.length (cQ l), .int .i64 i] = some (slI (nL e.w)) := tRel_eq (R := RWay) RWay_fn ⟨_, _, _, hb, he, hl, rfl, rfl⟩
theorem lookRA : lookedAt (EX md0 XWay) (fun _ => none) 2 Tryd.f26 = true := by kernel_rfl
theorem set_nils {L : List AV} {n i : Nat} (hL : L.length = i) (hi : i < n) (v : AV) : splice (L ++ List.replicate (n - i) .nil) i [v] = L ++ [v] ++ List.replicate (n - (i + 1)) .nil := by
  rw [splice_eq _ _ _ (by rw [List.length_append, List.length_replicate]; omega), List.set_append, if_neg (by omega), hL, Nat.sub_self]
  obtain ⟨d, hd⟩ : ∃ d, n - i = d + 1 := ⟨n - i - 1, by omega⟩
  rw [hd, show n - (i + 1) = d by omega, List.replicate_succ]
  simp
theorem prod_le {a b n k : Nat} (h1 : a ≤ n * k) (h2 : n ≤ 2000) (h3 : k ≤ 2000) : a ≤ 4000000 := Nat.le_trans h1 (Nat.mul_le_mul h2 h3)
set_option maxHeartbeats 8000000 in
theorem rapart_ok {n k : Nat} {N M : List Int} {A B : List Bool} (hw : WfD n N A) (hw' : WfD k M B) : Ok Tryd.prog 26 [dfaV n N A, dfaV k M B] (apV (farM N A M B)) := by
  refine ok_of_WP (E := EX md0 XWay) (cr := noR) XWay_ok (noR_ok _) mixed (k := 4000010) Tryd.func26 lookRA rfl ?_
  have hO := hw.okD
  have hO' := hw'.okD
  have hA := hw.a
  have hB := hw'.a
  have hN := hw.l
  have hM := hw'.l
  have hn := hw.sz
  have hk := hw'.sz
  have hrun := (far_ok hO hO').1
  rw [hA, hB] at hrun
  generalize farM N A M B = res at *
  have hnk : n * k ≤ 4000000 := Nat.mul_le_mul hn.2 hk.2
  simp only [Tryd.f26, Option.getD_some]
  rw [dfaV, slB, dfaV, slB, hA, hB]
  simp (disch := omega) only [go_sem, ↓IntWalk.iteOmega, IntWalk.toNatUp, Nat.reduceEqDiff, Nat.reduceAdd, Nat.reduceMul, Nat.reduceSub, Nat.reduceLT, Nat.reduceLeDiff, Int.reduceToNat, Int.reduceLT, Int.reduceLE, Int.reduceEq, Int.reduceAdd, Int.reduceSub, Int.reduceMul, Int.toNat_natCast, reduceCtorEq, decide_true, decide_false, IntWalk.i64_in, IntWalk.u64_in, IntWalk.u8_in]
  refine WP_loop (fun mm a o nx => ∃ (i : Nat) (ρ : Nat → Nat), i ≤ n ∧ mm = n - i ∧ 3 ≤ nx ∧ (∀ x, x < i → 3 ≤ ρ x ∧ ρ x < nx ∧ o (ρ x, 31) = some (.row ⟨4, 1, (ρ x, 31), false, true, cB (seenRow k [] x)⟩)) ∧ (∀ x y, x < i → y < i → ρ x = ρ y → x = y) ∧
      o (2, 19) = some (.row ⟨25, 1, (2, 19), false, true, refsM ρ k i ++ List.replicate (n - i) .nil⟩) ∧
      o (0, 2) = some (.row ⟨27, 1, (0, 2), false, true, [.sl n (cI N), .sl n (cB A)]⟩) ∧ o (0, 3) = some (.row ⟨27, 1, (0, 3), false, true, [.sl k (cI M), .sl k (cB B)]⟩) ∧ o (1, 15) = some (.row ⟨90, 4, (1, 15), false, true, cQ [ent0]⟩) ∧
      a 2 = .ptr (0, 2) (0, 2) 0 ∧ a 3 = .ptr (0, 3) (0, 3) 0 ∧ a 6 = .ref (1, 15) (1, 15) 0 1 ∧ a 7 = .ref (2, 19) (2, 19) 0 n ∧ a 8 = .int .i64 i) n (by omega)
    ⟨0, fun _ => 0, by omega, by omega, by omega, fun x h => by omega, fun x y h => by omega, ?_, by simp (disch := omega) only [go_sem, ↓IntWalk.iteOmega, IntWalk.toNatUp, Nat.reduceEqDiff, Nat.reduceAdd, Nat.reduceMul, Nat.reduceSub, Nat.reduceLT, Nat.reduceLeDiff, Int.reduceToNat, Int.reduceLT, Int.reduceLE, Int.reduceEq, Int.reduceAdd, Int.reduceSub, Int.reduceMul, Int.toNat_natCast, reduceCtorEq, decide_true, decide_false, IntWalk.i64_in, IntWalk.u64_in, IntWalk.u8_in], by simp (disch := omega) only [go_sem, ↓IntWalk.iteOmega, IntWalk.toNatUp, Nat.reduceEqDiff, Nat.reduceAdd, Nat.reduceMul, Nat.reduceSub, Nat.reduceLT, Nat.reduceLeDiff, Int.reduceToNat, Int.reduceLT, Int.reduceLE, Int.reduceEq, Int.reduceAdd, Int.reduceSub, Int.reduceMul, Int.toNat_natCast, reduceCtorEq, decide_true, decide_false, IntWalk.i64_in, IntWalk.u64_in, IntWalk.u8_in], ?_, by simp (disch := omega) only [go_sem, ↓IntWalk.iteOmega, IntWalk.toNatUp, Nat.reduceEqDiff, Nat.reduceAdd, Nat.reduceMul, Nat.reduceSub, Nat.reduceLT, Nat.reduceLeDiff, Int.reduceToNat, Int.reduceLT, Int.reduceLE, Int.reduceEq, Int.reduceAdd, Int.reduceSub, Int.reduceMul, Int.toNat_natCast, reduceCtorEq, decide_true, decide_false, IntWalk.i64_in, IntWalk.u64_in, IntWalk.u8_in], by simp (disch := omega) only [go_sem, ↓IntWalk.iteOmega, IntWalk.toNatUp, Nat.reduceEqDiff, Nat.reduceAdd, Nat.reduceMul, Nat.reduceSub, Nat.reduceLT, Nat.reduceLeDiff, Int.reduceToNat, Int.reduceLT, Int.reduceLE, Int.reduceEq, Int.reduceAdd, Int.reduceSub, Int.reduceMul, Int.toNat_natCast, reduceCtorEq, decide_true, decide_false, IntWalk.i64_in, IntWalk.u64_in, IntWalk.u8_in], by simp (disch := omega) only [go_sem, ↓IntWalk.iteOmega, IntWalk.toNatUp, Nat.reduceEqDiff, Nat.reduceAdd, Nat.reduceMul, Nat.reduceSub, Nat.reduceLT, Nat.reduceLeDiff, Int.reduceToNat, Int.reduceLT, Int.reduceLE, Int.reduceEq, Int.reduceAdd, Int.reduceSub, Int.reduceMul, Int.toNat_natCast, reduceCtorEq, decide_true, decide_false, IntWalk.i64_in, IntWalk.u64_in, IntWalk.u8_in], by simp (disch := omega) only [go_sem, ↓IntWalk.iteOmega, IntWalk.toNatUp, Nat.reduceEqDiff, Nat.reduceAdd, Nat.reduceMul, Nat.reduceSub, Nat.reduceLT, Nat.reduceLeDiff, Int.reduceToNat, Int.reduceLT, Int.reduceLE, Int.reduceEq, Int.reduceAdd, Int.reduceSub, Int.reduceMul, Int.toNat_natCast, reduceCtorEq, decide_true, decide_false, IntWalk.i64_in, IntWalk.u64_in, IntWalk.u8_in], by simp (disch := omega) only [go_sem, ↓IntWalk.iteOmega, IntWalk.toNatUp, Nat.reduceEqDiff, Nat.reduceAdd, Nat.reduceMul, Nat.reduceSub, Nat.reduceLT, Nat.reduceLeDiff, Int.reduceToNat, Int.reduceLT, Int.reduceLE, Int.reduceEq, Int.reduceAdd, Int.reduceSub, Int.reduceMul, Int.toNat_natCast, reduceCtorEq, decide_true, decide_false, IntWalk.i64_in, IntWalk.u64_in, IntWalk.u8_in]⟩ ?_
  · simp (disch := omega) only [go_sem, ↓IntWalk.iteOmega, IntWalk.toNatUp, Nat.reduceEqDiff, Nat.reduceAdd, Nat.reduceMul, Nat.reduceSub, Nat.reduceLT, Nat.reduceLeDiff, Int.reduceToNat, Int.reduceLT, Int.reduceLE, Int.reduceEq, Int.reduceAdd, Int.reduceSub, Int.reduceMul, Int.toNat_natCast, reduceCtorEq, decide_true, decide_false, IntWalk.i64_in, IntWalk.u64_in, IntWalk.u8_in, rep_one]
    simp [refsM]
  · simp (disch := omega) only [go_sem, ↓IntWalk.iteOmega, IntWalk.toNatUp, Nat.reduceEqDiff, Nat.reduceAdd, Nat.reduceMul, Nat.reduceSub, Nat.reduceLT, Nat.reduceLeDiff, Int.reduceToNat, Int.reduceLT, Int.reduceLE, Int.reduceEq, Int.reduceAdd, Int.reduceSub, Int.reduceMul, Int.toNat_natCast, reduceCtorEq, decide_true, decide_false, IntWalk.i64_in, IntWalk.u64_in, IntWalk.u8_in]
    rfl
  rintro mm a o nx ⟨i, ρ, hi, rfl, hnx, hrows, hinj, o19, o2, o3, o15, h2, h3, h6, h7, h8⟩
  by_cases hlt : i < n
  · have hset := fun v => set_nils (refs_len ρ k i) hlt v
    have hrl : (refsM ρ k i ++ List.replicate (n - i) AV.nil).length = n := by rw [List.length_append, refs_len, List.length_replicate]; omega
    simp (disch := omega) only [go_sem, ↓IntWalk.iteOmega, IntWalk.toNatUp, Nat.reduceEqDiff, Nat.reduceAdd, Nat.reduceMul, Nat.reduceSub, Nat.reduceLT, Nat.reduceLeDiff, Int.reduceToNat, Int.reduceLT, Int.reduceLE, Int.reduceEq, Int.reduceAdd, Int.reduceSub, Int.reduceMul, Int.toNat_natCast, reduceCtorEq, decide_true, decide_false, IntWalk.i64_in, IntWalk.u64_in, IntWalk.u8_in, h2, h3, h6, h7, h8, o19, o2, o3, o15, hset, hrl, rep_bool]
    have hext : refsM (fun x => if x = i then nx + 1 else ρ x) k (i + 1) = refsM ρ k i ++ [.ref (nx + 1, 31) (nx + 1, 31) 0 k] := by
      rw [refs_succ, refs_ext (ρ' := ρ) (fun x hx => if_neg (by omega))]
      simp
    refine ⟨n - (i + 1), by omega, i + 1, fun x => if x = i then nx + 1 else ρ x, by omega, rfl, fun x hx => ?_, fun x y hx hy hxy => ?_, by rw [hext], rfl⟩
    · by_cases hxi : x = i
      · simp only [hxi, if_true]
        exact ⟨by omega, by omega, by rw [seen_nil]⟩
      · simp only [hxi, if_false]
        obtain ⟨a1, a2, a3⟩ := hrows x (by omega)
        exact ⟨a1, by omega, by rw [if_neg (by omega)]; exact a3⟩
    · by_cases hxi : x = i <;> by_cases hyi : y = i
      · omega
      · simp only [hxi, hyi, if_true, if_false] at hxy
        have := (hrows y (by omega)).2.1
        omega
      · simp only [hxi, hyi, if_true, if_false] at hxy
        have := (hrows x (by omega)).2.1
        omega
      · simp only [hxi, hyi, if_false] at hxy
        exact hinj x y (by omega) (by omega) hxy
  · have hie : i = n := by omega
    subst hie
    rw [Nat.sub_self, List.replicate_zero, List.append_nil] at o19
    have hS0 : SeenAt o nx i k ρ [] := ⟨o19, fun x hx => ⟨(hrows x hx).2.1, (hrows x hx).2.2⟩, hinj⟩
    have q0 := refs_at (ρ := ρ) (k := k) (n := i) (x := 0) (s := 1) (by omega)
    rw [List.drop_zero] at q0
    obtain ⟨h30, _, oρ⟩ := hrows 0 (by omega)
    have hs0 : splice (cB (seenRow k [] 0)) 0 [.bool true] = cB (seenRow k ([] ++ [ent0]) 0) := seen_set (l := []) (e := ent0) (show (0 : Nat) < k by omega)
    have hl0 : (cB (seenRow k [] 0)).length = k := by rw [cB_length, seen_len]
    have hrl : (refsM ρ k i).length = i := refs_len ρ k i
    have hs0' : (.bool true) :: List.drop 1 (cB (seenRow k [] 0)) = cB (seenRow k ([] ++ [ent0]) 0) := by rw [← hs0, splice_zero]; rfl
    have hS1 : ∀ nx', nx ≤ nx' → SeenAt (upd o (ρ 0, 31) (.row ⟨4, 1, (ρ 0, 31), false, true, cB (seenRow k ([] ++ [ent0]) 0)⟩)) nx' i k ρ [ent0] := fun nx' hn => hS0.add (e := ent0) (show (0 : Nat) < i by omega) (by simp [upd_app]) (by simp [upd_app, ent0]) (fun q _ hne => by rw [upd_ne]; intro hc; injection hc with hc; exact hne hc) hn
    simp (disch := omega) only [go_sem, ↓IntWalk.iteOmega, IntWalk.toNatUp, Nat.reduceEqDiff, Nat.reduceAdd, Nat.reduceMul, Nat.reduceSub, Nat.reduceLT, Nat.reduceLeDiff, Int.reduceToNat, Int.reduceLT, Int.reduceLE, Int.reduceEq, Int.reduceAdd, Int.reduceSub, Int.reduceMul, Int.toNat_natCast, reduceCtorEq, decide_true, decide_false, IntWalk.i64_in, IntWalk.u64_in, IntWalk.u8_in, h2, h3, h6, h7, h8, o19, o2, o3, o15, q0, oρ, hs0, hs0', hl0, hrl]
    refine WP_loop (fun mm a o nx => ∃ (r j : Nat) (l : List Ent) (c : Nat) (g : Tag), pFar N A M B r j l = some res ∧ mm = r ∧ j ≤ l.length ∧ QMid N A M B j l c ∧ (∀ e, l[j]? = some e → QMid N A M B j l (5 * codeW e.w + 1)) ∧ 3 ≤ nx ∧ SeenAt o nx i k ρ l ∧
        o (0, 2) = some (.row ⟨27, 1, (0, 2), false, true, [.sl i (cI N), .sl i (cB A)]⟩) ∧ o (0, 3) = some (.row ⟨27, 1, (0, 3), false, true, [.sl k (cI M), .sl k (cB B)]⟩) ∧ o (1, 15) = some (.row ⟨90, 4, g, false, true, cQ l⟩) ∧
        a 2 = .ptr (0, 2) (0, 2) 0 ∧ a 3 = .ptr (0, 3) (0, 3) 0 ∧ a 6 = .ref (1, 15) g 0 l.length ∧ a 7 = .ref (2, 19) (2, 19) 0 i ∧ a 9 = .int .i64 j) (i * k + 2) (by omega)
      ⟨i * k + 2, 0, [ent0], 1, (1, 15), hrun, rfl, by simp, QMid.start N A M B, fun e he => (by injection he with he; subst he; exact QMid.start N A M B), by omega, hS1 _ (by omega), by simp (disch := omega) only [go_sem, ↓IntWalk.iteOmega, IntWalk.toNatUp, Nat.reduceEqDiff, Nat.reduceAdd, Nat.reduceMul, Nat.reduceSub, Nat.reduceLT, Nat.reduceLeDiff, Int.reduceToNat, Int.reduceLT, Int.reduceLE, Int.reduceEq, Int.reduceAdd, Int.reduceSub, Int.reduceMul, Int.toNat_natCast, reduceCtorEq, decide_true, decide_false, IntWalk.i64_in, IntWalk.u64_in, IntWalk.u8_in, o2], by simp (disch := omega) only [go_sem, ↓IntWalk.iteOmega, IntWalk.toNatUp, Nat.reduceEqDiff, Nat.reduceAdd, Nat.reduceMul, Nat.reduceSub, Nat.reduceLT, Nat.reduceLeDiff, Int.reduceToNat, Int.reduceLT, Int.reduceLE, Int.reduceEq, Int.reduceAdd, Int.reduceSub, Int.reduceMul, Int.toNat_natCast, reduceCtorEq, decide_true, decide_false, IntWalk.i64_in, IntWalk.u64_in, IntWalk.u8_in, o3], by simp (disch := omega) only [go_sem, ↓IntWalk.iteOmega, IntWalk.toNatUp, Nat.reduceEqDiff, Nat.reduceAdd, Nat.reduceMul, Nat.reduceSub, Nat.reduceLT, Nat.reduceLeDiff, Int.reduceToNat, Int.reduceLT, Int.reduceLE, Int.reduceEq, Int.reduceAdd, Int.reduceSub, Int.reduceMul, Int.toNat_natCast, reduceCtorEq, decide_true, decide_false, IntWalk.i64_in, IntWalk.u64_in, IntWalk.u8_in, o15], by simp (disch := omega) only [go_sem, ↓IntWalk.iteOmega, IntWalk.toNatUp, Nat.reduceEqDiff, Nat.reduceAdd, Nat.reduceMul, Nat.reduceSub, Nat.reduceLT, Nat.reduceLeDiff, Int.reduceToNat, Int.reduceLT, Int.reduceLE, Int.reduceEq, Int.reduceAdd, Int.reduceSub, Int.reduceMul, Int.toNat_natCast, reduceCtorEq, decide_true, decide_false, IntWalk.i64_in, IntWalk.u64_in, IntWalk.u8_in, h2], by simp (disch := omega) only [go_sem, ↓IntWalk.iteOmega, IntWalk.toNatUp, Nat.reduceEqDiff, Nat.reduceAdd, Nat.reduceMul, Nat.reduceSub, Nat.reduceLT, Nat.reduceLeDiff, Int.reduceToNat, Int.reduceLT, Int.reduceLE, Int.reduceEq, Int.reduceAdd, Int.reduceSub, Int.reduceMul, Int.toNat_natCast, reduceCtorEq, decide_true, decide_false, IntWalk.i64_in, IntWalk.u64_in, IntWalk.u8_in, h3], by simp (disch := omega) only [go_sem, ↓IntWalk.iteOmega, IntWalk.toNatUp, Nat.reduceEqDiff, Nat.reduceAdd, Nat.reduceMul, Nat.reduceSub, Nat.reduceLT, Nat.reduceLeDiff, Int.reduceToNat, Int.reduceLT, Int.reduceLE, Int.reduceEq, Int.reduceAdd, Int.reduceSub, Int.reduceMul, Int.toNat_natCast, reduceCtorEq, decide_true, decide_false, IntWalk.i64_in, IntWalk.u64_in, IntWalk.u8_in, h6], by simp (disch := omega) only [go_sem, ↓IntWalk.iteOmega, IntWalk.toNatUp, Nat.reduceEqDiff, Nat.reduceAdd, Nat.reduceMul, Nat.reduceSub, Nat.reduceLT, Nat.reduceLeDiff, Int.reduceToNat, Int.reduceLT, Int.reduceLE, Int.reduceEq, Int.reduceAdd, Int.reduceSub, Int.reduceMul, Int.toNat_natCast, reduceCtorEq, decide_true, decide_false, IntWalk.i64_in, IntWalk.u64_in, IntWalk.u8_in, h7], by simp (disch := omega) only [go_sem, ↓IntWalk.iteOmega, IntWalk.toNatUp, Nat.reduceEqDiff, Nat.reduceAdd, Nat.reduceMul, Nat.reduceSub, Nat.reduceLT, Nat.reduceLeDiff, Int.reduceToNat, Int.reduceLT, Int.reduceLE, Int.reduceEq, Int.reduceAdd, Int.reduceSub, Int.reduceMul, Int.toNat_natCast, reduceCtorEq, decide_true, decide_false, IntWalk.i64_in, IntWalk.u64_in, IntWalk.u8_in]⟩ ?_
    clear h2 h3 h6 h7 h8 o2 o3 o15 o19 hrows hinj hS0 q0 oρ hs0 hl0 hrl hs0' hS1 hrun hnx
    rintro mm a o nx ⟨r, j, l, c, g, hp, rfl, hj, hq, hqn, hnx, hS, o2, o3, o15, h2, h3, h6, h7, h9⟩
    obtain ⟨r', rfl, hs⟩ := pFar_step hp
    clear hp
    rcases hs with ⟨hx, hres⟩ | ⟨e, he, hs⟩
    · subst hres
      have hje : j = l.length := by have := List.getElem?_eq_none_iff.1 hx; omega
      subst hje
      simp (disch := omega) only [go_sem, ↓IntWalk.iteOmega, IntWalk.toNatUp, Nat.reduceEqDiff, Nat.reduceAdd, Nat.reduceMul, Nat.reduceSub, Nat.reduceLT, Nat.reduceLeDiff, Int.reduceToNat, Int.reduceLT, Int.reduceLE, Int.reduceEq, Int.reduceAdd, Int.reduceSub, Int.reduceMul, Int.toNat_natCast, reduceCtorEq, decide_true, decide_false, IntWalk.i64_in, IntWalk.u64_in, IntWalk.u8_in, h2, h3, h6, h7, h9]
      rfl
    have hQ := hqn e he
    obtain ⟨hfew, hin⟩ := hQ.few hO hO'
    rw [hA, hB] at hfew
    obtain ⟨hex, hey⟩ := hin e (List.mem_of_getElem? he)
    rw [hA] at hex
    rw [hB] at hey
    have hlt := (List.getElem?_eq_some_iff.1 he).1
    have hat := cQ_at he
    have ga := cB_get (l := A) (i := e.x) (s := 1) (by omega)
    have gb := cB_get (l := B) (i := e.y) (s := 1) (by omega)
    have hlc : l.length ≤ 4000000 := by omega
    rcases hs with ⟨hab, hp⟩ | ⟨hab, hres⟩
    · have hbe : (A.getD e.x false == B.getD e.y false) = true := by rw [hab]; exact beq_self_eq_true _
      have hrow0 := fun m hm => pRow_ok hQ he hab m hm
      generalize A.getD e.x false = za at ga hbe
      generalize B.getD e.y false = zb at gb hbe
      simp (disch := omega) only [go_sem, ↓IntWalk.iteOmega, IntWalk.toNatUp, Nat.reduceEqDiff, Nat.reduceAdd, Nat.reduceMul, Nat.reduceSub, Nat.reduceLT, Nat.reduceLeDiff, Int.reduceToNat, Int.reduceLT, Int.reduceLE, Int.reduceEq, Int.reduceAdd, Int.reduceSub, Int.reduceMul, Int.toNat_natCast, reduceCtorEq, decide_true, decide_false, IntWalk.i64_in, IntWalk.u64_in, IntWalk.u8_in, h2, h3, h6, h7, h9, o2, o3, o15, hat, ga, gb, hbe, Bool.not_true]
      have hpre : SeenAt (upd (upd o (nx + 1, 10) (.row ⟨90, 1, (nx + 1, 10), false, true, [.int .i64 0, .int .i64 0, .int .i64 0, .int .i64 0]⟩)) (nx + 1, 10) (.row ⟨90, 1, (nx + 1, 10), false, true, [.int .i64 (e.x : Nat), .int .i64 (e.y : Nat), .int .i64 e.b, .int .i64 (e.m : Nat)]⟩)) (nx + 1 + 1 + 1 + 1) i k ρ l := hS.keep hnx (fun q s _ hs => by
        rw [upd_ne, upd_ne] <;> (intro hc; injection hc with _ hc; omega)) (by omega)
      refine WP_loop (fun mm a o' nx' => ∃ (m : Nat) (g' : Tag), m ≤ 5 ∧ mm = 5 - m ∧ nx + 3 ≤ nx' ∧ SeenAt o' nx' i k ρ (pRow N M j e m l) ∧
          o' (0, 2) = some (.row ⟨27, 1, (0, 2), false, true, [.sl i (cI N), .sl i (cB A)]⟩) ∧ o' (0, 3) = some (.row ⟨27, 1, (0, 3), false, true, [.sl k (cI M), .sl k (cB B)]⟩) ∧ o' (1, 15) = some (.row ⟨90, 4, g', false, true, cQ (pRow N M j e m l)⟩) ∧ o' (nx + 1, 10) = some (.row ⟨90, 1, (nx + 1, 10), false, true, [.int .i64 (e.x : Nat), .int .i64 (e.y : Nat), .int .i64 e.b, .int .i64 (e.m : Nat)]⟩) ∧
          a 2 = .ptr (0, 2) (0, 2) 0 ∧ a 3 = .ptr (0, 3) (0, 3) 0 ∧ a 6 = .ref (1, 15) g' 0 (pRow N M j e m l).length ∧ a 7 = .ref (2, 19) (2, 19) 0 i ∧ a 9 = .int .i64 j ∧ a 10 = .ptr (nx + 1, 10) (nx + 1, 10) 0 ∧ a 11 = .int .i64 m) 5 (by omega)
        ⟨0, g, by omega, by omega, by omega, hpre, by simp (disch := omega) only [go_sem, ↓IntWalk.iteOmega, IntWalk.toNatUp, Nat.reduceEqDiff, Nat.reduceAdd, Nat.reduceMul, Nat.reduceSub, Nat.reduceLT, Nat.reduceLeDiff, Int.reduceToNat, Int.reduceLT, Int.reduceLE, Int.reduceEq, Int.reduceAdd, Int.reduceSub, Int.reduceMul, Int.toNat_natCast, reduceCtorEq, decide_true, decide_false, IntWalk.i64_in, IntWalk.u64_in, IntWalk.u8_in, o2], by simp (disch := omega) only [go_sem, ↓IntWalk.iteOmega, IntWalk.toNatUp, Nat.reduceEqDiff, Nat.reduceAdd, Nat.reduceMul, Nat.reduceSub, Nat.reduceLT, Nat.reduceLeDiff, Int.reduceToNat, Int.reduceLT, Int.reduceLE, Int.reduceEq, Int.reduceAdd, Int.reduceSub, Int.reduceMul, Int.toNat_natCast, reduceCtorEq, decide_true, decide_false, IntWalk.i64_in, IntWalk.u64_in, IntWalk.u8_in, o3], by simp (disch := omega) only [go_sem, ↓IntWalk.iteOmega, IntWalk.toNatUp, Nat.reduceEqDiff, Nat.reduceAdd, Nat.reduceMul, Nat.reduceSub, Nat.reduceLT, Nat.reduceLeDiff, Int.reduceToNat, Int.reduceLT, Int.reduceLE, Int.reduceEq, Int.reduceAdd, Int.reduceSub, Int.reduceMul, Int.toNat_natCast, reduceCtorEq, decide_true, decide_false, IntWalk.i64_in, IntWalk.u64_in, IntWalk.u8_in, o15]; rfl, by simp (disch := omega) only [go_sem, ↓IntWalk.iteOmega, IntWalk.toNatUp, Nat.reduceEqDiff, Nat.reduceAdd, Nat.reduceMul, Nat.reduceSub, Nat.reduceLT, Nat.reduceLeDiff, Int.reduceToNat, Int.reduceLT, Int.reduceLE, Int.reduceEq, Int.reduceAdd, Int.reduceSub, Int.reduceMul, Int.toNat_natCast, reduceCtorEq, decide_true, decide_false, IntWalk.i64_in, IntWalk.u64_in, IntWalk.u8_in], by simp (disch := omega) only [go_sem, ↓IntWalk.iteOmega, IntWalk.toNatUp, Nat.reduceEqDiff, Nat.reduceAdd, Nat.reduceMul, Nat.reduceSub, Nat.reduceLT, Nat.reduceLeDiff, Int.reduceToNat, Int.reduceLT, Int.reduceLE, Int.reduceEq, Int.reduceAdd, Int.reduceSub, Int.reduceMul, Int.toNat_natCast, reduceCtorEq, decide_true, decide_false, IntWalk.i64_in, IntWalk.u64_in, IntWalk.u8_in, h2], by simp (disch := omega) only [go_sem, ↓IntWalk.iteOmega, IntWalk.toNatUp, Nat.reduceEqDiff, Nat.reduceAdd, Nat.reduceMul, Nat.reduceSub, Nat.reduceLT, Nat.reduceLeDiff, Int.reduceToNat, Int.reduceLT, Int.reduceLE, Int.reduceEq, Int.reduceAdd, Int.reduceSub, Int.reduceMul, Int.toNat_natCast, reduceCtorEq, decide_true, decide_false, IntWalk.i64_in, IntWalk.u64_in, IntWalk.u8_in, h3], by simp (disch := omega) only [go_sem, ↓IntWalk.iteOmega, IntWalk.toNatUp, Nat.reduceEqDiff, Nat.reduceAdd, Nat.reduceMul, Nat.reduceSub, Nat.reduceLT, Nat.reduceLeDiff, Int.reduceToNat, Int.reduceLT, Int.reduceLE, Int.reduceEq, Int.reduceAdd, Int.reduceSub, Int.reduceMul, Int.toNat_natCast, reduceCtorEq, decide_true, decide_false, IntWalk.i64_in, IntWalk.u64_in, IntWalk.u8_in, h6]; rfl, by simp (disch := omega) only [go_sem, ↓IntWalk.iteOmega, IntWalk.toNatUp, Nat.reduceEqDiff, Nat.reduceAdd, Nat.reduceMul, Nat.reduceSub, Nat.reduceLT, Nat.reduceLeDiff, Int.reduceToNat, Int.reduceLT, Int.reduceLE, Int.reduceEq, Int.reduceAdd, Int.reduceSub, Int.reduceMul, Int.toNat_natCast, reduceCtorEq, decide_true, decide_false, IntWalk.i64_in, IntWalk.u64_in, IntWalk.u8_in, h7], by simp (disch := omega) only [go_sem, ↓IntWalk.iteOmega, IntWalk.toNatUp, Nat.reduceEqDiff, Nat.reduceAdd, Nat.reduceMul, Nat.reduceSub, Nat.reduceLT, Nat.reduceLeDiff, Int.reduceToNat, Int.reduceLT, Int.reduceLE, Int.reduceEq, Int.reduceAdd, Int.reduceSub, Int.reduceMul, Int.toNat_natCast, reduceCtorEq, decide_true, decide_false, IntWalk.i64_in, IntWalk.u64_in, IntWalk.u8_in, h9], by simp (disch := omega) only [go_sem, ↓IntWalk.iteOmega, IntWalk.toNatUp, Nat.reduceEqDiff, Nat.reduceAdd, Nat.reduceMul, Nat.reduceSub, Nat.reduceLT, Nat.reduceLeDiff, Int.reduceToNat, Int.reduceLT, Int.reduceLE, Int.reduceEq, Int.reduceAdd, Int.reduceSub, Int.reduceMul, Int.toNat_natCast, reduceCtorEq, decide_true, decide_false, IntWalk.i64_in, IntWalk.u64_in, IntWalk.u8_in], by simp (disch := omega) only [go_sem, ↓IntWalk.iteOmega, IntWalk.toNatUp, Nat.reduceEqDiff, Nat.reduceAdd, Nat.reduceMul, Nat.reduceSub, Nat.reduceLT, Nat.reduceLeDiff, Int.reduceToNat, Int.reduceLT, Int.reduceLE, Int.reduceEq, Int.reduceAdd, Int.reduceSub, Int.reduceMul, Int.toNat_natCast, reduceCtorEq, decide_true, decide_false, IntWalk.i64_in, IntWalk.u64_in, IntWalk.u8_in]⟩ ?_
      clear h2 h3 h6 h7 h9 o2 o3 o15 hS hpre hat ga gb hbe
      rintro mm a o' nx' ⟨m, g', hm, rfl, hnx', hS, o2, o3, o15, o10, h2, h3, h6, h7, h9, h10, h11⟩
      have hR := hrow0 m hm
      obtain ⟨hLf, _⟩ := hR.mid.few hO hO'
      rw [hA, hB] at hLf
      have hLc : (pRow N M j e m l).length ≤ 4000000 := by omega
      by_cases hm5 : m < 5
      · have hsucc : pRow N M j e (m + 1) l = pMet (pRow N M j e m l) (entN N M j e m) := rfl
        have hx1 := hO.e (e.x * 5 + m) (by omega)
        have hy1 := hO'.e (e.y * 5 + m) (by omega)
        have hxn : (entN N M j e m).x < i := by rw [← hA]; exact hO.next (by omega) hm5
        have hyn : (entN N M j e m).y < k := by rw [← hB]; exact hO'.next (by omega) hm5
        have q1 : take1 false 1 (((cI N).drop (e.x * 5)).drop m) = some (.int .i64 ((entN N M j e m).x : Nat)) := by
          rw [List.drop_drop, cI_get (by omega)]
          show some (AV.int .i64 _) = some (.int .i64 (((N.getD (e.x * 5 + m) 0).toNat : Nat) : Int))
          rw [Int.toNat_of_nonneg hx1.1]
        have q2 : take1 false 1 (((cI M).drop (e.y * 5)).drop m) = some (.int .i64 ((entN N M j e m).y : Nat)) := by
          rw [List.drop_drop, cI_get (by omega)]
          show some (AV.int .i64 _) = some (.int .i64 (((M.getD (e.y * 5 + m) 0).toNat : Nat) : Int))
          rw [Int.toNat_of_nonneg hy1.1]
        have q3 := refs_at (ρ := ρ) (k := k) (n := i) (s := 1) hxn
        have q4 := fun L => seen_at (l := L) (x := (entN N M j e m).x) (s := 1) hyn
        have q5 := fun L => seen_set (l := L) (e := entN N M j e m) hyn
        have eb : (entN N M j e m).b = (j : Int) := rfl
        have em : (entN N M j e m).m = m := rfl
        have hadd := fun (o'' : Ob) => hS.add (e := entN N M j e m) hxn (o' := o'')
        have oρ := hS.rows _ hxn
        have hS19 := hS.row
        have hrl : (refsM ρ k i).length = i := refs_len ρ k i
        generalize entN N M j e m = e' at *
        generalize pRow N M j e m l = L at *
        have hsl : ∀ L, (cB (seenRow k L e'.x)).length = k := fun L => by rw [cB_length, seen_len]
        have hcq : cQ (L ++ [e']) = cQ L ++ [.int .i64 (e'.x : Nat), .int .i64 (e'.y : Nat), .int .i64 (j : Nat), .int .i64 (m : Nat)] := by
          rw [cQ_app, ← em, ← eb]; rfl
        obtain ⟨hρ, oρ⟩ := oρ
        have q4 := q4 L
        cases hany : L.any (fun p => p.x == e'.x && p.y == e'.y) with
        | true =>
          rw [hany] at q4
          have hmet : pMet L e' = L := by unfold pMet; rw [hany]; rfl
          rw [hmet] at hsucc
          simp (disch := omega) only [go_sem, ↓IntWalk.iteOmega, IntWalk.toNatUp, Nat.reduceEqDiff, Nat.reduceAdd, Nat.reduceMul, Nat.reduceSub, Nat.reduceLT, Nat.reduceLeDiff, Int.reduceToNat, Int.reduceLT, Int.reduceLE, Int.reduceEq, Int.reduceAdd, Int.reduceSub, Int.reduceMul, Int.toNat_natCast, reduceCtorEq, decide_true, decide_false, IntWalk.i64_in, IntWalk.u64_in, IntWalk.u8_in, h2, h3, h6, h7, h9, h10, h11, o2, o3, o15, o10, q1, q2, q3, q4, oρ, hS19, hsl, hrl, Bool.not_true]
          exact ⟨5 - (m + 1), by omega, m + 1, g', by omega, rfl, by omega, by rw [hsucc]; exact hS.keep (by omega) (fun _ _ _ _ => rfl) (by omega), by first | (rw [hsucc]; done) | (rw [hsucc]; exact o15), by rw [hsucc], rfl⟩
        | false =>
          rw [hany] at q4
          have hmet : pMet L e' = L ++ [e'] := by unfold pMet; rw [hany]; rfl
          rw [hmet] at hsucc
          have q5 := q5 L
          simp (disch := omega) only [go_sem, ↓IntWalk.iteOmega, IntWalk.toNatUp, Nat.reduceEqDiff, Nat.reduceAdd, Nat.reduceMul, Nat.reduceSub, Nat.reduceLT, Nat.reduceLeDiff, Int.reduceToNat, Int.reduceLT, Int.reduceLE, Int.reduceEq, Int.reduceAdd, Int.reduceSub, Int.reduceMul, Int.toNat_natCast, reduceCtorEq, decide_true, decide_false, IntWalk.i64_in, IntWalk.u64_in, IntWalk.u8_in, h2, h3, h6, h7, h9, h10, h11, o2, o3, o15, o10, q1, q2, q3, q4, q5, oρ, hS19, hsl, hrl, Bool.not_false]
          refine ⟨5 - (m + 1), by omega, m + 1, (nx' + 1 + 1 + 1 + 1, 104), by omega, rfl, by omega, ?_, by rw [hsucc, hcq], by rw [hsucc]; simp, rfl⟩
          rw [hsucc]
          refine hadd _ (by simp [upd_app]) (by simp [upd_app]) (fun q _ hne => ?_) (by omega)
          rw [upd_ne, upd_ne, upd_ne]
          · intro hc; injection hc with hc; exact hne hc
          · intro hc; injection hc with _ hc; omega
          · intro hc; injection hc with _ hc; omega
      · have hme : m = 5 := by omega
        subst hme
        simp (disch := omega) only [go_sem, ↓IntWalk.iteOmega, IntWalk.toNatUp, Nat.reduceEqDiff, Nat.reduceAdd, Nat.reduceMul, Nat.reduceSub, Nat.reduceLT, Nat.reduceLeDiff, Int.reduceToNat, Int.reduceLT, Int.reduceLE, Int.reduceEq, Int.reduceAdd, Int.reduceSub, Int.reduceMul, Int.toNat_natCast, reduceCtorEq, decide_true, decide_false, IntWalk.i64_in, IntWalk.u64_in, IntWalk.u8_in, h2, h3, h6, h7, h9, h10, h11]
        exact ⟨r', by omega, r', j + 1, _, _, g', hp, rfl, (List.getElem?_eq_some_iff.1 hR.at_).1, hR.done, hR.next, by omega, hS.keep (by omega) (fun _ _ _ _ => rfl) (by omega), o2, o3, o15, rfl, rfl⟩
    · subst hres
      have hbe : (A.getD e.x false == B.getD e.y false) = false := beq_false_of_ne hab
      have hway := XWay_eq hQ.backL he (by omega)
      generalize A.getD e.x false = za at ga hbe
      generalize B.getD e.y false = zb at gb hbe
      simp (disch := omega) only [go_sem, ↓IntWalk.iteOmega, IntWalk.toNatUp, Nat.reduceEqDiff, Nat.reduceAdd, Nat.reduceMul, Nat.reduceSub, Nat.reduceLT, Nat.reduceLeDiff, Int.reduceToNat, Int.reduceLT, Int.reduceLE, Int.reduceEq, Int.reduceAdd, Int.reduceSub, Int.reduceMul, Int.toNat_natCast, reduceCtorEq, decide_true, decide_false, IntWalk.i64_in, IntWalk.u64_in, IntWalk.u8_in, h2, h3, h6, h7, h9, o2, o3, o15, hat, ga, gb, hbe, Bool.not_false, hway]
      rfl
def RFar (args : List AV) (r : AV) : Prop := ∃ (n k : Nat) (N M : List Int) (A B : List Bool), WfD n N A ∧ WfD k M B ∧ args = [dfaV n N A, dfaV k M B] ∧ r = apV (farM N A M B)
theorem RFar_fn : Fun1 RFar := by
  rintro args r r' ⟨n, k, N, M, A, B, _, _, rfl, rfl⟩ ⟨n', k', N', M', A', B', _, _, h, rfl⟩
  simp only [List.cons.injEq, and_true] at h
  obtain ⟨_, h1, h2⟩ := dfaV_inj h.1
  obtain ⟨_, h3, h4⟩ := dfaV_inj h.2
  rw [h1, h2, h3, h4]
theorem RFar_ref (args r) (h : RFar args r) : Ok Tryd.prog 26 args r := by obtain ⟨n, k, N, M, A, B, h1, h2, rfl, rfl⟩ := h; exact rapart_ok h1 h2
end Go.Proofs.YtpmjpogcaglphaaDoor.A
/- Words turned about, copied, on the caller's memory. -/
namespace Go.Proofs.YtpmjpogcaglphaaDoor.A
open Go
set_option maxRecDepth 20000
/-- A row, turned about up to so many places from both ends. -/
def revI (u : List Int) (i : Nat) : List Int := (List.range u.length).map fun p => if p < i ∨ u.length - i ≤ p then u.getD (u.length - 1 - p) 0 else u.getD p 0
theorem revI_len (u i) : (revI u i).length = u.length := by simp [revI]
theorem revI_at {u : List Int} {i p : Nat} (hp : p < u.length) : (revI u i).getD p 0 = if p < i ∨ u.length - i ≤ p then u.getD (u.length - 1 - p) 0 else u.getD p 0 := by
  unfold revI
  rw [List.getD_eq_getElem?_getD, List.getElem?_map, List.getElem?_range hp]
  rfl
theorem ext_getD {x y : List Int} (hl : x.length = y.length) (h : ∀ p, p < x.length → x.getD p 0 = y.getD p 0) : x = y := by
  refine List.ext_getElem hl fun p h1 h2 => ?_
  have := h p h1
  simpa [List.getD, h1, h2] using this
theorem revI_zero (u) : revI u 0 = u := ext_getD (revI_len u 0) fun p hp => by
  rw [revI_len] at hp
  rw [revI_at hp, if_neg (by omega)]
theorem revI_end {u : List Int} {i : Nat} (hi : ¬ (i : Int) < (u.length : Int) - 1 - i) : revI u i = u.reverse := ext_getD (by rw [revI_len, List.length_reverse]) fun p hp => by
  rw [revI_len] at hp
  have e : u.reverse.getD p 0 = u.getD (u.length - 1 - p) 0 := by
    rw [List.getD_eq_getElem?_getD, List.getD_eq_getElem?_getD, List.getElem?_reverse hp]
  rw [revI_at hp, e]
  by_cases h : p < i ∨ u.length - i ≤ p
  · rw [if_pos h]
  · rw [if_neg h, show u.length - 1 - p = p by omega]
theorem revI_step {u : List Int} {i : Nat} (hi : (i : Int) < (u.length : Int) - 1 - i) : ((revI u i).set i (u.getD (u.length - 1 - i) 0)).set (u.length - 1 - i) (u.getD i 0) = revI u (i + 1) := ext_getD (by simp [revI_len]) fun p hp => by
  rw [List.length_set, List.length_set, revI_len] at hp
  rw [getD_set _ _ _ _ _ (by rw [List.length_set, revI_len]; omega), getD_set _ _ _ _ _ (by rw [revI_len]; omega), revI_at hp, revI_at hp]
  by_cases h1 : u.length - 1 - i = p
  · rw [if_pos h1, if_pos (by omega), show u.length - 1 - p = i by omega]
  · rw [if_neg h1]
    by_cases h2 : i = p
    · rw [if_pos h2, if_pos (by omega), h2]
    · rw [if_neg h2]
      by_cases h3 : p < i ∨ u.length - i ≤ p
      · rw [if_pos h3, if_pos (by omega)]
      · rw [if_neg h3, if_neg (by omega)]
theorem lookRev (X) : lookedAt (EX md0 X) (fun _ => none) 1 Tryd.f57 = true := by kernel_rfl
theorem rev_wp (X : FuncId → List AV → Option AV) (cr : CallR) {q s : Nat} {g : Tag} {u : List Int} {o : Ob} {nx : Nat} (hl : u.length ≤ 100000000) (hr : o (q, s) = some (.row ⟨3, 1, g, false, true, cI u⟩)) :
    WP (EX md0 X) cr 100000010 (fun _ => none) (Tryd.f57.body.getD .skip) (begin_ [.ref (q, s) g 0 u.length]) o nx (fun w a o' nx' => w = .normal ∧ nx ≤ nx' ∧ o' (q, s) = some (.row ⟨3, 1, g, false, true, cI u.reverse⟩) ∧ ∀ t, t ≠ (q, s) → o' t = o t) := by
  simp only [Tryd.f57, Option.getD_some]
  simp (disch := omega) only [go_sem, ↓IntWalk.iteOmega, IntWalk.toNatUp, Nat.reduceEqDiff, Nat.reduceAdd, Nat.reduceMul, Nat.reduceSub, Nat.reduceLT, Nat.reduceLeDiff, Int.reduceToNat, Int.reduceLT, Int.reduceLE, Int.reduceEq, Int.reduceAdd, Int.reduceSub, Int.reduceMul, Int.toNat_natCast, reduceCtorEq, decide_true, decide_false, IntWalk.i64_in, IntWalk.u64_in, IntWalk.u8_in]
  refine WP_loop (fun mm a o' nx' => ∃ i : Nat, i ≤ u.length ∧ mm = u.length - i ∧ nx ≤ nx' ∧ a 0 = .ref (q, s) g 0 u.length ∧ a 2 = .int .i64 i ∧ a 3 = .int .i64 ((u.length : Int) - 1 - i) ∧ o' (q, s) = some (.row ⟨3, 1, g, false, true, cI (revI u i)⟩) ∧ ∀ t, t ≠ (q, s) → o' t = o t) u.length (by omega) ⟨0, by omega, by omega, by omega, by simp (disch := omega) only [go_sem, ↓IntWalk.iteOmega, IntWalk.toNatUp, Nat.reduceEqDiff, Nat.reduceAdd, Nat.reduceMul, Nat.reduceSub, Nat.reduceLT, Nat.reduceLeDiff, Int.reduceToNat, Int.reduceLT, Int.reduceLE, Int.reduceEq, Int.reduceAdd, Int.reduceSub, Int.reduceMul, Int.toNat_natCast, reduceCtorEq, decide_true, decide_false, IntWalk.i64_in, IntWalk.u64_in, IntWalk.u8_in], by simp (disch := omega) only [go_sem, ↓IntWalk.iteOmega, IntWalk.toNatUp, Nat.reduceEqDiff, Nat.reduceAdd, Nat.reduceMul, Nat.reduceSub, Nat.reduceLT, Nat.reduceLeDiff, Int.reduceToNat, Int.reduceLT, Int.reduceLE, Int.reduceEq, Int.reduceAdd, Int.reduceSub, Int.reduceMul, Int.toNat_natCast, reduceCtorEq, decide_true, decide_false, IntWalk.i64_in, IntWalk.u64_in, IntWalk.u8_in], by simp (disch := omega) only [go_sem, ↓IntWalk.iteOmega, IntWalk.toNatUp, Nat.reduceEqDiff, Nat.reduceAdd, Nat.reduceMul, Nat.reduceSub, Nat.reduceLT, Nat.reduceLeDiff, Int.reduceToNat, Int.reduceLT, Int.reduceLE, Int.reduceEq, Int.reduceAdd, Int.reduceSub, Int.reduceMul, Int.toNat_natCast, reduceCtorEq, decide_true, decide_false, IntWalk.i64_in, IntWalk.u64_in, IntWalk.u8_in]; simp, by rw [revI_zero]; exact hr, fun t _ => rfl⟩ ?_
  rintro mm a o' nx' ⟨i, hi, rfl, hnx, h0, h2, h3, hq, hk⟩
  by_cases hlt : (i : Int) < (u.length : Int) - 1 - i
  · have g1 := cI_get (l := revI u i) (i := i) (s := 1) (by rw [revI_len]; omega)
    have g2 := cI_get (l := revI u i) (i := u.length - 1 - i) (s := 1) (by rw [revI_len]; omega)
    rw [revI_at (by omega), if_neg (by omega)] at g1
    rw [revI_at (by omega), if_neg (by omega)] at g2
    have hj : ((u.length : Int) - 1 - i).toNat = u.length - 1 - i := by omega
    have hcs := cI_set (revI u i) i (u.getD (u.length - 1 - i) 0) (by rw [revI_len]; omega)
    have hcs2 := cI_set ((revI u i).set i (u.getD (u.length - 1 - i) 0)) (u.length - 1 - i) (u.getD i 0) (by rw [List.length_set, revI_len]; omega)
    rw [revI_step hlt] at hcs2
    have hl1 : (cI (revI u i)).length = u.length := by rw [cI_length, revI_len]
    have hl2 : (cI ((revI u i).set i (u.getD (u.length - 1 - i) 0))).length = u.length := by rw [cI_length, List.length_set, revI_len]
    generalize u.getD i 0 = x at *
    generalize u.getD (u.length - 1 - i) 0 = y at *
    simp (disch := omega) only [go_sem, ↓IntWalk.iteOmega, IntWalk.toNatUp, Nat.reduceEqDiff, Nat.reduceAdd, Nat.reduceMul, Nat.reduceSub, Nat.reduceLT, Nat.reduceLeDiff, Int.reduceToNat, Int.reduceLT, Int.reduceLE, Int.reduceEq, Int.reduceAdd, Int.reduceSub, Int.reduceMul, Int.toNat_natCast, reduceCtorEq, decide_true, decide_false, IntWalk.i64_in, IntWalk.u64_in, IntWalk.u8_in, h0, h2, h3, hq, hlt, g1, g2, hj, hcs, hcs2, hl1, hl2]
    refine ⟨u.length - (i + 1), by omega, i + 1, by omega, rfl, by omega, rfl, by congr 1; omega, rfl, fun t ht => ?_⟩
    rw [upd_ne _ _ _ _ ht, upd_ne _ _ _ _ ht]
    exact hk t ht
  · rw [revI_end hlt] at hq
    simp (disch := omega) only [go_sem, ↓IntWalk.iteOmega, IntWalk.toNatUp, Nat.reduceEqDiff, Nat.reduceAdd, Nat.reduceMul, Nat.reduceSub, Nat.reduceLT, Nat.reduceLeDiff, Int.reduceToNat, Int.reduceLT, Int.reduceLE, Int.reduceEq, Int.reduceAdd, Int.reduceSub, Int.reduceMul, Int.toNat_natCast, reduceCtorEq, decide_true, decide_false, IntWalk.i64_in, IntWalk.u64_in, IntWalk.u8_in, h0, h2, h3, hlt]
    exact ⟨by omega, hq, hk⟩
theorem rev_nil (X : FuncId → List AV → Option AV) (cr : CallR) {o : Ob} {nx : Nat} :
    WP (EX md0 X) cr 100000010 (fun _ => none) (Tryd.f57.body.getD .skip) (begin_ [.nil]) o nx (fun w a o' nx' => w = .normal ∧ nx ≤ nx' ∧ o' = o) := by
  simp only [Tryd.f57, Option.getD_some]
  simp (disch := omega) only [go_sem, ↓IntWalk.iteOmega, IntWalk.toNatUp, Nat.reduceEqDiff, Nat.reduceAdd, Nat.reduceMul, Nat.reduceSub, Nat.reduceLT, Nat.reduceLeDiff, Int.reduceToNat, Int.reduceLT, Int.reduceLE, Int.reduceEq, Int.reduceAdd, Int.reduceSub, Int.reduceMul, Int.toNat_natCast, reduceCtorEq, decide_true, decide_false, IntWalk.i64_in, IntWalk.u64_in, IntWalk.u8_in]
  refine WP_loop (fun mm a o' nx' => nx ≤ nx' ∧ a 2 = .int .i64 0 ∧ a 3 = .int .i64 (-1) ∧ o' = o) 0 (by omega) ⟨by omega, by simp (disch := omega) only [go_sem, ↓IntWalk.iteOmega, IntWalk.toNatUp, Nat.reduceEqDiff, Nat.reduceAdd, Nat.reduceMul, Nat.reduceSub, Nat.reduceLT, Nat.reduceLeDiff, Int.reduceToNat, Int.reduceLT, Int.reduceLE, Int.reduceEq, Int.reduceAdd, Int.reduceSub, Int.reduceMul, Int.toNat_natCast, reduceCtorEq, decide_true, decide_false, IntWalk.i64_in, IntWalk.u64_in, IntWalk.u8_in], by simp (disch := omega) only [go_sem, ↓IntWalk.iteOmega, IntWalk.toNatUp, Nat.reduceEqDiff, Nat.reduceAdd, Nat.reduceMul, Nat.reduceSub, Nat.reduceLT, Nat.reduceLeDiff, Int.reduceToNat, Int.reduceLT, Int.reduceLE, Int.reduceEq, Int.reduceAdd, Int.reduceSub, Int.reduceMul, Int.toNat_natCast, reduceCtorEq, decide_true, decide_false, IntWalk.i64_in, IntWalk.u64_in, IntWalk.u8_in], rfl⟩ ?_
  rintro mm a o' nx' ⟨hnx, h2, h3, rfl⟩
  simp (disch := omega) only [go_sem, ↓IntWalk.iteOmega, IntWalk.toNatUp, Nat.reduceEqDiff, Nat.reduceAdd, Nat.reduceMul, Nat.reduceSub, Nat.reduceLT, Nat.reduceLeDiff, Int.reduceToNat, Int.reduceLT, Int.reduceLE, Int.reduceEq, Int.reduceAdd, Int.reduceSub, Int.reduceMul, Int.toNat_natCast, reduceCtorEq, decide_true, decide_false, IntWalk.i64_in, IntWalk.u64_in, IntWalk.u8_in, h2, h3]
  omega
theorem lookCi (X) : lookedAt (EX md0 X) (fun _ => none) 1 Tryd.f58 = true := by kernel_rfl
theorem clone_wp (X : FuncId → List AV → Option AV) (cr : CallR) {v : AV} {n : Nat} {x : List Int} {o : Ob} {nx : Nat} (hv : HS 3 1 62 o nx v n (cI x)) (hl : n ≤ 100000000) :
    WP (EX md0 X) cr 0 (fun _ => none) (Tryd.f58.body.getD .skip) (begin_ [v]) o nx (fun w a o' nx' => w = .ret ∧ nx ≤ nx' ∧ view o' 1011 (a 2) = .sl n (cI x)) := by
  have hxl := hv.len
  rw [cI_length] at hxl
  simp only [Tryd.f58, Option.getD_some]
  rcases hv with ⟨rfl, rfl, h0⟩ | ⟨i, g, rfl, hi, hro, hlen⟩
  · have hx0 : x = [] := List.length_eq_zero_iff.1 (by omega)
    subst hx0
    have e : aBin Tryd.prog .eql 22 .nil .nil = some (.bool true) := rfl
    simp (disch := omega) only [go_sem, ↓IntWalk.iteOmega, IntWalk.toNatUp, Nat.reduceEqDiff, Nat.reduceAdd, Nat.reduceMul, Nat.reduceSub, Nat.reduceLT, Nat.reduceLeDiff, Int.reduceToNat, Int.reduceLT, Int.reduceLE, Int.reduceEq, Int.reduceAdd, Int.reduceSub, Int.reduceMul, Int.toNat_natCast, reduceCtorEq, decide_true, decide_false, IntWalk.i64_in, IntWalk.u64_in, IntWalk.u8_in, e]
    omega
  · have e : aBin Tryd.prog .eql 22 (.ref (i, 62) g 0 n) .nil = some (.bool false) := rfl
    have htk : (cI x).take (n * 1) = cI x := take_len hlen
    have htk2 : (cI x).take n = cI x := take_len (by omega)
    have hl2 := cI_length x
    simp (disch := omega) only [go_sem, ↓IntWalk.iteOmega, IntWalk.toNatUp, Nat.reduceEqDiff, Nat.reduceAdd, Nat.reduceMul, Nat.reduceSub, Nat.reduceLT, Nat.reduceLeDiff, Int.reduceToNat, Int.reduceLT, Int.reduceLE, Int.reduceEq, Int.reduceAdd, Int.reduceSub, Int.reduceMul, Int.toNat_natCast, reduceCtorEq, decide_true, decide_false, IntWalk.i64_in, IntWalk.u64_in, IntWalk.u8_in, e, hro, htk, htk2, hl2, List.take_zero, List.nil_append, Nat.zero_mul, Nat.zero_add]
    omega
end Go.Proofs.YtpmjpogcaglphaaDoor.A
/- Two machines told apart: the program's Apart. -/
namespace Go.Proofs.YtpmjpogcaglphaaDoor.A
open Go
set_option maxRecDepth 20000
noncomputable def crAp : CallR := tabLookR [(57, fun args H => if args.length = 1 then runP (EX md0 (fun _ _ => none)) noR 100000010 (fun _ => none) Tryd.f57 args H else none), (58, fun args H => if args.length = 1 then runP (EX md0 (fun _ _ => none)) noR 0 (fun _ => none) Tryd.f58 args H else none)]
theorem crAp_ok : CRSound Tryd.prog crAp ∧ Up crAp := by
  refine tabR_cons (tabR_cons (tabR_nil _) fun args H v H' h => ?_) fun args H v H' h => ?_
  · split at h
    · rename_i hn
      exact okR_run (E := EX md0 (fun _ _ => none)) (tab_nil _) (noR_ok Tryd.prog).1 (noR_ok Tryd.prog).2 mixed Tryd.func58 (by rw [hn]; exact lookCi _) h
    · cases h
  · split at h
    · rename_i hn
      exact okR_run (E := EX md0 (fun _ _ => none)) (tab_nil _) (noR_ok Tryd.prog).1 (noR_ok Tryd.prog).2 mixed Tryd.func57 (by rw [hn]; exact lookRev _) h
    · cases h
theorem rev_call {v : AV} {n : Nat} {u : List Int} {o : Ob} {nx : Nat} (hv : HS 3 1 62 o nx v n (cI u)) (hl : n ≤ 100000000) {K : AV × AH → Prop} (hK : ∀ o' nx', nx ≤ nx' → HS 3 1 62 o' nx' v n (cI u.reverse) → (∀ t, t.2 ≠ 62 → o' t = o t) → K (.tup [], ⟨o', nx'⟩)) :
    wO (Option.map (fun p => freezeR false p.1 p.2) (crAp 57 [v] ⟨o, nx⟩)) K := by
  have hxl := hv.len
  rw [cI_length] at hxl
  rcases hv with ⟨rfl, rfl, h0⟩ | ⟨i, g, rfl, hi, hro, hlen⟩
  · have hu0 : u = [] := List.length_eq_zero_iff.1 (by omega)
    subst hu0
    refine runP_callE (E := EX md0 (fun _ _ => none)) (fn := Tryd.f57) rfl (WP_mono (rev_nil _ noR) ?_)
    rintro w a o' nx' ⟨rfl, h1, rfl⟩
    exact ⟨.inl rfl, hK o' nx' h1 HS.nil (fun t _ => rfl)⟩
  · have hn : n = u.length := by omega
    subst hn
    refine runP_callE (E := EX md0 (fun _ _ => none)) (fn := Tryd.f57) rfl (WP_mono (rev_wp _ noR hl hro) ?_)
    rintro w a o' nx' ⟨rfl, h1, h2, h3⟩
    exact ⟨.inl rfl, hK o' nx' h1 (.inr ⟨i, g, rfl, by omega, h2, by rw [cI_length, List.length_reverse, Nat.mul_one]⟩) (fun t ht => h3 t (fun hc => ht (by rw [hc])))⟩
theorem clone_call {v : AV} {n : Nat} {x : List Int} {o : Ob} {nx : Nat} (hv : HS 3 1 62 o nx v n (cI x)) (hl : n ≤ 100000000) {K : AV × AH → Prop} (hK : ∀ v' o' nx', nx ≤ nx' → view o' 1011 v' = .sl n (cI x) → K (v', ⟨o', nx'⟩)) :
    wO (Option.map (fun p => freezeR false p.1 p.2) (crAp 58 [v] ⟨o, nx⟩)) K := by
  refine runP_callE (E := EX md0 (fun _ _ => none)) (fn := Tryd.f58) rfl (WP_mono (clone_wp _ noR hv hl) ?_)
  rintro w a o' nx' ⟨rfl, h1, h2⟩
  refine ⟨.inr rfl, ?_⟩
  simp only [Tryd.f58]
  simp (disch := omega) only [go_sem, ↓IntWalk.iteOmega, IntWalk.toNatUp, Nat.reduceEqDiff, Nat.reduceAdd, Nat.reduceMul, Nat.reduceSub, Nat.reduceLT, Nat.reduceLeDiff, Int.reduceToNat, Int.reduceLT, Int.reduceLE, Int.reduceEq, Int.reduceAdd, Int.reduceSub, Int.reduceMul, Int.toNat_natCast, reduceCtorEq, decide_true, decide_false, IntWalk.i64_in, IntWalk.u64_in, IntWalk.u8_in]
  exact hK _ o' nx' h1 h2
/-! ### what is seen, in a map -/
abbrev kP (x y : Int) : AV := .agg [.int .i64 x, .int .i64 y]
def mapP (l : List Ent) : List (AV × AV) := l.map fun e => (kP (e.x : Nat) (e.y : Nat), .bool true)
theorem mapP_app (l m) : mapP (l ++ m) = mapP l ++ mapP m := by simp [mapP]
theorem findP (x y : Nat) : ∀ l : List Ent, findA (kP (x : Nat) (y : Nat)) (mapP l) = some (if l.any (fun p => p.x == x && p.y == y) = true then some (.bool true) else none)
  | [] => rfl
  | e :: l => by
    have ih := findP x y l
    have he : eqKey (kP (x : Nat) (y : Nat)) (kP (e.x : Nat) (e.y : Nat)) = some (e.x == x && e.y == y) := by
      show some ((x : Int) == (e.x : Int) && (y : Int) == (e.y : Int)) = _
      congr 1
      rw [Bool.eq_iff_iff]
      simp only [Bool.and_eq_true, beq_iff_eq]
      omega
    show findA _ ((kP (e.x : Nat) (e.y : Nat), .bool true) :: mapP l) = _
    rw [findA, he, ih, List.any_cons]
    cases e.x == x && e.y == y <;> simp
theorem mapP_new {l : List Ent} {e : Ent} (h : l.any (fun p => p.x == e.x && p.y == e.y) = false) : putA (kP (e.x : Nat) (e.y : Nat)) (.bool true) (mapP l) = mapP (l ++ [e]) := by
  have hf := findP e.x e.y l
  rw [h, if_neg (by decide)] at hf
  rw [(findA_none hf).2, mapP_app]
  rfl
def nzAp : Nat → Option (List (Nat × Nat))
  | 18 => some [(1, 17), (3, 17), (7, 17), (9, 17), (11, 17), (15, 17)]
  | _ => none
def mdA (f : FuncId) : Mode := if f = 58 then .raw false else md0 f
theorem mdA_clone : mdA 58 = .raw false := rfl
theorem mdA_rev : mdA 57 = .raw false := rfl
theorem lookMA : lookedAt (EX mdA (fun _ _ => none)) nzAp 2 Tryd.f33 = true := by kernel_rfl
set_option maxHeartbeats 8000000 in
theorem mapart_ok {n k : Nat} {N M : List Int} {A B : List Bool} (hw : WfD n N A) (hw' : WfD k M B) : Ok Tryd.prog 33 [dfaV n N A, dfaV k M B] (apV (farM N A M B)) := by
  refine ok_of_WP (E := EX mdA (fun _ _ => none)) (cr := crAp) (tab_nil _) crAp_ok mixed (k := 4000010) Tryd.func33 lookMA rfl ?_
  have hO := hw.okD
  have hO' := hw'.okD
  have hA := hw.a
  have hB := hw'.a
  have hN := hw.l
  have hM := hw'.l
  have hn := hw.sz
  have hk := hw'.sz
  have hrun := (far_ok hO hO').1
  rw [hA, hB] at hrun
  generalize farM N A M B = res at *
  have hnk : n * k ≤ 4000000 := Nat.mul_le_mul hn.2 hk.2
  have hup0 : ∀ (tg : Tag) (o : Ob) (nx : Nat), updM tg (kP 0 0) (.bool true) o nx [] = some ⟨upd o tg (.map [(kP 0 0, .bool true)]), nx⟩ := fun tg o nx => updM_eq rfl tg _ o nx
  simp only [Tryd.f33, Option.getD_some]
  rw [dfaV, slB, dfaV, slB, hA, hB]
  simp (disch := omega) only [go_sem, ↓IntWalk.iteOmega, IntWalk.toNatUp, Nat.reduceEqDiff, Nat.reduceAdd, Nat.reduceMul, Nat.reduceSub, Nat.reduceLT, Nat.reduceLeDiff, Int.reduceToNat, Int.reduceLT, Int.reduceLE, Int.reduceEq, Int.reduceAdd, Int.reduceSub, Int.reduceMul, Int.toNat_natCast, reduceCtorEq, decide_true, decide_false, IntWalk.i64_in, IntWalk.u64_in, IntWalk.u8_in, hup0]
  refine WP_loop (fun mm a o nx => ∃ (r i : Nat) (l : List Ent) (c : Nat) (g : Tag), pFar N A M B r i l = some res ∧ mm = r ∧ i ≤ l.length ∧ QMid N A M B i l c ∧ (∀ e, l[i]? = some e → QMid N A M B i l (5 * codeW e.w + 1)) ∧ 3 ≤ nx ∧
      o (0, 2) = some (.row ⟨27, 1, (0, 2), false, true, [.sl n (cI N), .sl n (cB A)]⟩) ∧ o (0, 3) = some (.row ⟨27, 1, (0, 3), false, true, [.sl k (cI M), .sl k (cB B)]⟩) ∧ o (1, 14) = some (.map (mapP l)) ∧ o (2, 18) = some (.row ⟨103, 4, g, false, true, cQ l⟩) ∧
      a 2 = .ptr (0, 2) (0, 2) 0 ∧ a 3 = .ptr (0, 3) (0, 3) 0 ∧ a 6 = .mp (1, 14) ∧ a 7 = .ref (2, 18) g 0 l.length ∧ a 8 = .int .i64 i) (n * k + 2) (by omega)
    ⟨n * k + 2, 0, [ent0], 1, (2, 18), hrun, rfl, by simp, QMid.start N A M B, fun e he => (by injection he with he; subst he; exact QMid.start N A M B), by omega, by simp (disch := omega) only [go_sem, ↓IntWalk.iteOmega, IntWalk.toNatUp, Nat.reduceEqDiff, Nat.reduceAdd, Nat.reduceMul, Nat.reduceSub, Nat.reduceLT, Nat.reduceLeDiff, Int.reduceToNat, Int.reduceLT, Int.reduceLE, Int.reduceEq, Int.reduceAdd, Int.reduceSub, Int.reduceMul, Int.toNat_natCast, reduceCtorEq, decide_true, decide_false, IntWalk.i64_in, IntWalk.u64_in, IntWalk.u8_in], by simp (disch := omega) only [go_sem, ↓IntWalk.iteOmega, IntWalk.toNatUp, Nat.reduceEqDiff, Nat.reduceAdd, Nat.reduceMul, Nat.reduceSub, Nat.reduceLT, Nat.reduceLeDiff, Int.reduceToNat, Int.reduceLT, Int.reduceLE, Int.reduceEq, Int.reduceAdd, Int.reduceSub, Int.reduceMul, Int.toNat_natCast, reduceCtorEq, decide_true, decide_false, IntWalk.i64_in, IntWalk.u64_in, IntWalk.u8_in], ?_, ?_, by simp (disch := omega) only [go_sem, ↓IntWalk.iteOmega, IntWalk.toNatUp, Nat.reduceEqDiff, Nat.reduceAdd, Nat.reduceMul, Nat.reduceSub, Nat.reduceLT, Nat.reduceLeDiff, Int.reduceToNat, Int.reduceLT, Int.reduceLE, Int.reduceEq, Int.reduceAdd, Int.reduceSub, Int.reduceMul, Int.toNat_natCast, reduceCtorEq, decide_true, decide_false, IntWalk.i64_in, IntWalk.u64_in, IntWalk.u8_in], by simp (disch := omega) only [go_sem, ↓IntWalk.iteOmega, IntWalk.toNatUp, Nat.reduceEqDiff, Nat.reduceAdd, Nat.reduceMul, Nat.reduceSub, Nat.reduceLT, Nat.reduceLeDiff, Int.reduceToNat, Int.reduceLT, Int.reduceLE, Int.reduceEq, Int.reduceAdd, Int.reduceSub, Int.reduceMul, Int.toNat_natCast, reduceCtorEq, decide_true, decide_false, IntWalk.i64_in, IntWalk.u64_in, IntWalk.u8_in], by simp (disch := omega) only [go_sem, ↓IntWalk.iteOmega, IntWalk.toNatUp, Nat.reduceEqDiff, Nat.reduceAdd, Nat.reduceMul, Nat.reduceSub, Nat.reduceLT, Nat.reduceLeDiff, Int.reduceToNat, Int.reduceLT, Int.reduceLE, Int.reduceEq, Int.reduceAdd, Int.reduceSub, Int.reduceMul, Int.toNat_natCast, reduceCtorEq, decide_true, decide_false, IntWalk.i64_in, IntWalk.u64_in, IntWalk.u8_in], by simp (disch := omega) only [go_sem, ↓IntWalk.iteOmega, IntWalk.toNatUp, Nat.reduceEqDiff, Nat.reduceAdd, Nat.reduceMul, Nat.reduceSub, Nat.reduceLT, Nat.reduceLeDiff, Int.reduceToNat, Int.reduceLT, Int.reduceLE, Int.reduceEq, Int.reduceAdd, Int.reduceSub, Int.reduceMul, Int.toNat_natCast, reduceCtorEq, decide_true, decide_false, IntWalk.i64_in, IntWalk.u64_in, IntWalk.u8_in], by simp (disch := omega) only [go_sem, ↓IntWalk.iteOmega, IntWalk.toNatUp, Nat.reduceEqDiff, Nat.reduceAdd, Nat.reduceMul, Nat.reduceSub, Nat.reduceLT, Nat.reduceLeDiff, Int.reduceToNat, Int.reduceLT, Int.reduceLE, Int.reduceEq, Int.reduceAdd, Int.reduceSub, Int.reduceMul, Int.toNat_natCast, reduceCtorEq, decide_true, decide_false, IntWalk.i64_in, IntWalk.u64_in, IntWalk.u8_in]⟩ ?_
  · simp (disch := omega) only [go_sem, ↓IntWalk.iteOmega, IntWalk.toNatUp, Nat.reduceEqDiff, Nat.reduceAdd, Nat.reduceMul, Nat.reduceSub, Nat.reduceLT, Nat.reduceLeDiff, Int.reduceToNat, Int.reduceLT, Int.reduceLE, Int.reduceEq, Int.reduceAdd, Int.reduceSub, Int.reduceMul, Int.toNat_natCast, reduceCtorEq, decide_true, decide_false, IntWalk.i64_in, IntWalk.u64_in, IntWalk.u8_in]
    rfl
  · simp (disch := omega) only [go_sem, ↓IntWalk.iteOmega, IntWalk.toNatUp, Nat.reduceEqDiff, Nat.reduceAdd, Nat.reduceMul, Nat.reduceSub, Nat.reduceLT, Nat.reduceLeDiff, Int.reduceToNat, Int.reduceLT, Int.reduceLE, Int.reduceEq, Int.reduceAdd, Int.reduceSub, Int.reduceMul, Int.toNat_natCast, reduceCtorEq, decide_true, decide_false, IntWalk.i64_in, IntWalk.u64_in, IntWalk.u8_in]
    rfl
  rintro mm a o nx ⟨r, i, l, c, g, hp, rfl, hi, hq, hqn, hnx, o2, o3, o14, o18, h2, h3, h6, h7, h8⟩
  obtain ⟨r', rfl, hs⟩ := pFar_step hp
  clear hp
  rcases hs with ⟨hx, hres⟩ | ⟨e, he, hs⟩
  · subst hres
    have hie : i = l.length := by have := List.getElem?_eq_none_iff.1 hx; omega
    subst hie
    simp (disch := omega) only [go_sem, ↓IntWalk.iteOmega, IntWalk.toNatUp, Nat.reduceEqDiff, Nat.reduceAdd, Nat.reduceMul, Nat.reduceSub, Nat.reduceLT, Nat.reduceLeDiff, Int.reduceToNat, Int.reduceLT, Int.reduceLE, Int.reduceEq, Int.reduceAdd, Int.reduceSub, Int.reduceMul, Int.toNat_natCast, reduceCtorEq, decide_true, decide_false, IntWalk.i64_in, IntWalk.u64_in, IntWalk.u8_in, h2, h3, h6, h7, h8]
    rfl
  have hQ := hqn e he
  obtain ⟨hfew, hin⟩ := hQ.few hO hO'
  rw [hA, hB] at hfew
  obtain ⟨hex, hey⟩ := hin e (List.mem_of_getElem? he)
  rw [hA] at hex
  rw [hB] at hey
  have hlt := (List.getElem?_eq_some_iff.1 he).1
  have hat := cQ_at he
  have ga := cB_get (l := A) (i := e.x) (s := 1) (by omega)
  have gb := cB_get (l := B) (i := e.y) (s := 1) (by omega)
  have hlc : l.length ≤ 4000000 := by omega
  rcases hs with ⟨hab, hp⟩ | ⟨hab, hres⟩
  · have hbe : (A.getD e.x false == B.getD e.y false) = true := by rw [hab]; exact beq_self_eq_true _
    have hrow0 := fun m hm => pRow_ok hQ he hab m hm
    generalize A.getD e.x false = za at ga hbe
    generalize B.getD e.y false = zb at gb hbe
    simp (disch := omega) only [go_sem, ↓IntWalk.iteOmega, IntWalk.toNatUp, Nat.reduceEqDiff, Nat.reduceAdd, Nat.reduceMul, Nat.reduceSub, Nat.reduceLT, Nat.reduceLeDiff, Int.reduceToNat, Int.reduceLT, Int.reduceLE, Int.reduceEq, Int.reduceAdd, Int.reduceSub, Int.reduceMul, Int.toNat_natCast, reduceCtorEq, decide_true, decide_false, IntWalk.i64_in, IntWalk.u64_in, IntWalk.u8_in, nzAp, h2, h3, h6, h7, h8, o2, o3, o18, hat, ga, gb, hbe, Bool.not_true]
    refine WP_loop (fun mm a o' nx' => ∃ (m : Nat) (g' : Tag), m ≤ 5 ∧ mm = 5 - m ∧ nx + 3 ≤ nx' ∧
        o' (0, 2) = some (.row ⟨27, 1, (0, 2), false, true, [.sl n (cI N), .sl n (cB A)]⟩) ∧ o' (0, 3) = some (.row ⟨27, 1, (0, 3), false, true, [.sl k (cI M), .sl k (cB B)]⟩) ∧ o' (1, 14) = some (.map (mapP (pRow N M i e m l))) ∧ o' (2, 18) = some (.row ⟨103, 4, g', false, true, cQ (pRow N M i e m l)⟩) ∧ o' (nx + 1, 9) = some (.row ⟨100, 1, (nx + 1, 9), false, true, [.int .i64 (e.x : Nat), .int .i64 (e.y : Nat)]⟩) ∧
        a 2 = .ptr (0, 2) (0, 2) 0 ∧ a 3 = .ptr (0, 3) (0, 3) 0 ∧ a 6 = .mp (1, 14) ∧ a 7 = .ref (2, 18) g' 0 (pRow N M i e m l).length ∧ a 8 = .int .i64 i ∧ a 9 = .ptr (nx + 1, 9) (nx + 1, 9) 0 ∧ a 67 = .int .i64 m) 5 (by omega)
      ⟨0, g, by omega, by omega, by omega, by simp (disch := omega) only [go_sem, ↓IntWalk.iteOmega, IntWalk.toNatUp, Nat.reduceEqDiff, Nat.reduceAdd, Nat.reduceMul, Nat.reduceSub, Nat.reduceLT, Nat.reduceLeDiff, Int.reduceToNat, Int.reduceLT, Int.reduceLE, Int.reduceEq, Int.reduceAdd, Int.reduceSub, Int.reduceMul, Int.toNat_natCast, reduceCtorEq, decide_true, decide_false, IntWalk.i64_in, IntWalk.u64_in, IntWalk.u8_in, o2], by simp (disch := omega) only [go_sem, ↓IntWalk.iteOmega, IntWalk.toNatUp, Nat.reduceEqDiff, Nat.reduceAdd, Nat.reduceMul, Nat.reduceSub, Nat.reduceLT, Nat.reduceLeDiff, Int.reduceToNat, Int.reduceLT, Int.reduceLE, Int.reduceEq, Int.reduceAdd, Int.reduceSub, Int.reduceMul, Int.toNat_natCast, reduceCtorEq, decide_true, decide_false, IntWalk.i64_in, IntWalk.u64_in, IntWalk.u8_in, o3], by simp (disch := omega) only [go_sem, ↓IntWalk.iteOmega, IntWalk.toNatUp, Nat.reduceEqDiff, Nat.reduceAdd, Nat.reduceMul, Nat.reduceSub, Nat.reduceLT, Nat.reduceLeDiff, Int.reduceToNat, Int.reduceLT, Int.reduceLE, Int.reduceEq, Int.reduceAdd, Int.reduceSub, Int.reduceMul, Int.toNat_natCast, reduceCtorEq, decide_true, decide_false, IntWalk.i64_in, IntWalk.u64_in, IntWalk.u8_in, o14]; rfl, by simp (disch := omega) only [go_sem, ↓IntWalk.iteOmega, IntWalk.toNatUp, Nat.reduceEqDiff, Nat.reduceAdd, Nat.reduceMul, Nat.reduceSub, Nat.reduceLT, Nat.reduceLeDiff, Int.reduceToNat, Int.reduceLT, Int.reduceLE, Int.reduceEq, Int.reduceAdd, Int.reduceSub, Int.reduceMul, Int.toNat_natCast, reduceCtorEq, decide_true, decide_false, IntWalk.i64_in, IntWalk.u64_in, IntWalk.u8_in, o18]; rfl, by simp (disch := omega) only [go_sem, ↓IntWalk.iteOmega, IntWalk.toNatUp, Nat.reduceEqDiff, Nat.reduceAdd, Nat.reduceMul, Nat.reduceSub, Nat.reduceLT, Nat.reduceLeDiff, Int.reduceToNat, Int.reduceLT, Int.reduceLE, Int.reduceEq, Int.reduceAdd, Int.reduceSub, Int.reduceMul, Int.toNat_natCast, reduceCtorEq, decide_true, decide_false, IntWalk.i64_in, IntWalk.u64_in, IntWalk.u8_in], by simp (disch := omega) only [go_sem, ↓IntWalk.iteOmega, IntWalk.toNatUp, Nat.reduceEqDiff, Nat.reduceAdd, Nat.reduceMul, Nat.reduceSub, Nat.reduceLT, Nat.reduceLeDiff, Int.reduceToNat, Int.reduceLT, Int.reduceLE, Int.reduceEq, Int.reduceAdd, Int.reduceSub, Int.reduceMul, Int.toNat_natCast, reduceCtorEq, decide_true, decide_false, IntWalk.i64_in, IntWalk.u64_in, IntWalk.u8_in, h2], by simp (disch := omega) only [go_sem, ↓IntWalk.iteOmega, IntWalk.toNatUp, Nat.reduceEqDiff, Nat.reduceAdd, Nat.reduceMul, Nat.reduceSub, Nat.reduceLT, Nat.reduceLeDiff, Int.reduceToNat, Int.reduceLT, Int.reduceLE, Int.reduceEq, Int.reduceAdd, Int.reduceSub, Int.reduceMul, Int.toNat_natCast, reduceCtorEq, decide_true, decide_false, IntWalk.i64_in, IntWalk.u64_in, IntWalk.u8_in, h3], by simp (disch := omega) only [go_sem, ↓IntWalk.iteOmega, IntWalk.toNatUp, Nat.reduceEqDiff, Nat.reduceAdd, Nat.reduceMul, Nat.reduceSub, Nat.reduceLT, Nat.reduceLeDiff, Int.reduceToNat, Int.reduceLT, Int.reduceLE, Int.reduceEq, Int.reduceAdd, Int.reduceSub, Int.reduceMul, Int.toNat_natCast, reduceCtorEq, decide_true, decide_false, IntWalk.i64_in, IntWalk.u64_in, IntWalk.u8_in, h6], by simp (disch := omega) only [go_sem, ↓IntWalk.iteOmega, IntWalk.toNatUp, Nat.reduceEqDiff, Nat.reduceAdd, Nat.reduceMul, Nat.reduceSub, Nat.reduceLT, Nat.reduceLeDiff, Int.reduceToNat, Int.reduceLT, Int.reduceLE, Int.reduceEq, Int.reduceAdd, Int.reduceSub, Int.reduceMul, Int.toNat_natCast, reduceCtorEq, decide_true, decide_false, IntWalk.i64_in, IntWalk.u64_in, IntWalk.u8_in, h7]; rfl, by simp (disch := omega) only [go_sem, ↓IntWalk.iteOmega, IntWalk.toNatUp, Nat.reduceEqDiff, Nat.reduceAdd, Nat.reduceMul, Nat.reduceSub, Nat.reduceLT, Nat.reduceLeDiff, Int.reduceToNat, Int.reduceLT, Int.reduceLE, Int.reduceEq, Int.reduceAdd, Int.reduceSub, Int.reduceMul, Int.toNat_natCast, reduceCtorEq, decide_true, decide_false, IntWalk.i64_in, IntWalk.u64_in, IntWalk.u8_in, h8], by simp (disch := omega) only [go_sem, ↓IntWalk.iteOmega, IntWalk.toNatUp, Nat.reduceEqDiff, Nat.reduceAdd, Nat.reduceMul, Nat.reduceSub, Nat.reduceLT, Nat.reduceLeDiff, Int.reduceToNat, Int.reduceLT, Int.reduceLE, Int.reduceEq, Int.reduceAdd, Int.reduceSub, Int.reduceMul, Int.toNat_natCast, reduceCtorEq, decide_true, decide_false, IntWalk.i64_in, IntWalk.u64_in, IntWalk.u8_in], by simp (disch := omega) only [go_sem, ↓IntWalk.iteOmega, IntWalk.toNatUp, Nat.reduceEqDiff, Nat.reduceAdd, Nat.reduceMul, Nat.reduceSub, Nat.reduceLT, Nat.reduceLeDiff, Int.reduceToNat, Int.reduceLT, Int.reduceLE, Int.reduceEq, Int.reduceAdd, Int.reduceSub, Int.reduceMul, Int.toNat_natCast, reduceCtorEq, decide_true, decide_false, IntWalk.i64_in, IntWalk.u64_in, IntWalk.u8_in]⟩ ?_
    clear h2 h3 h6 h7 h8 o2 o3 o14 o18 hat ga gb hbe
    rintro mm a o' nx' ⟨m, g', hm, rfl, hnx', o2, o3, o14, o18, o9, h2, h3, h6, h7, h8, h9, h67⟩
    have hR := hrow0 m hm
    obtain ⟨hLf, _⟩ := hR.mid.few hO hO'
    rw [hA, hB] at hLf
    have hLc : (pRow N M i e m l).length ≤ 4000000 := by omega
    by_cases hm5 : m < 5
    · have hsucc : pRow N M i e (m + 1) l = pMet (pRow N M i e m l) (entN N M i e m) := rfl
      have hx1 := hO.e (e.x * 5 + m) (by omega)
      have hy1 := hO'.e (e.y * 5 + m) (by omega)
      have q1 : take1 false 1 (((cI N).drop (e.x * 5)).drop m) = some (.int .i64 ((entN N M i e m).x : Nat)) := by
        rw [List.drop_drop, cI_get (by omega)]
        show some (AV.int .i64 _) = some (.int .i64 (((N.getD (e.x * 5 + m) 0).toNat : Nat) : Int))
        rw [Int.toNat_of_nonneg hx1.1]
      have q2 : take1 false 1 (((cI M).drop (e.y * 5)).drop m) = some (.int .i64 ((entN N M i e m).y : Nat)) := by
        rw [List.drop_drop, cI_get (by omega)]
        show some (AV.int .i64 _) = some (.int .i64 (((M.getD (e.y * 5 + m) 0).toNat : Nat) : Int))
        rw [Int.toNat_of_nonneg hy1.1]
      have eb : (entN N M i e m).b = (i : Int) := rfl
      have em : (entN N M i e m).m = m := rfl
      generalize entN N M i e m = e' at *
      generalize pRow N M i e m l = L at *
      have hcq : cQ (L ++ [e']) = cQ L ++ [.int .i64 (e'.x : Nat), .int .i64 (e'.y : Nat), .int .i64 (i : Nat), .int .i64 (m : Nat)] := by
        rw [cQ_app, ← em, ← eb]; rfl
      have hfd := findP e'.x e'.y L
      cases hany : L.any (fun p => p.x == e'.x && p.y == e'.y) with
      | true =>
        rw [hany, if_pos rfl] at hfd
        have hmet : pMet L e' = L := by unfold pMet; rw [hany]; rfl
        rw [hmet] at hsucc
        simp (disch := omega) only [go_sem, ↓IntWalk.iteOmega, IntWalk.toNatUp, Nat.reduceEqDiff, Nat.reduceAdd, Nat.reduceMul, Nat.reduceSub, Nat.reduceLT, Nat.reduceLeDiff, Int.reduceToNat, Int.reduceLT, Int.reduceLE, Int.reduceEq, Int.reduceAdd, Int.reduceSub, Int.reduceMul, Int.toNat_natCast, reduceCtorEq, decide_true, decide_false, IntWalk.i64_in, IntWalk.u64_in, IntWalk.u8_in, nzAp, h2, h3, h6, h7, h8, h9, h67, o2, o3, o14, o18, o9, q1, q2, hfd, Bool.not_true]
        exact ⟨5 - (m + 1), by omega, m + 1, g', by omega, rfl, by omega, by first | (rw [hsucc]; done) | (rw [hsucc]; exact o14), by first | (rw [hsucc]; done) | (rw [hsucc]; exact o18), by rw [hsucc], rfl⟩
      | false =>
        rw [hany, if_neg (by decide)] at hfd
        have hmet : pMet L e' = L ++ [e'] := by unfold pMet; rw [hany]; rfl
        rw [hmet] at hsucc
        have hup : ∀ (o : Ob) (nx : Nat), updM (1, 14) (kP (e'.x : Nat) (e'.y : Nat)) (.bool true) o nx (mapP L) = some ⟨upd o (1, 14) (.map (mapP (L ++ [e']))), nx⟩ := fun o nx => by rw [updM_eq hfd, mapP_new hany]
        simp (disch := omega) only [go_sem, ↓IntWalk.iteOmega, IntWalk.toNatUp, Nat.reduceEqDiff, Nat.reduceAdd, Nat.reduceMul, Nat.reduceSub, Nat.reduceLT, Nat.reduceLeDiff, Int.reduceToNat, Int.reduceLT, Int.reduceLE, Int.reduceEq, Int.reduceAdd, Int.reduceSub, Int.reduceMul, Int.toNat_natCast, reduceCtorEq, decide_true, decide_false, IntWalk.i64_in, IntWalk.u64_in, IntWalk.u8_in, nzAp, h2, h3, h6, h7, h8, h9, h67, o2, o3, o14, o18, o9, q1, q2, hfd, hup, Bool.not_false]
        exact ⟨5 - (m + 1), by omega, m + 1, (nx' + 1 + 1 + 1 + 1 + 1, 99), by omega, rfl, by omega, by rw [hsucc], by rw [hsucc, hcq], by rw [hsucc]; simp, rfl⟩
    · have hme : m = 5 := by omega
      subst hme
      simp (disch := omega) only [go_sem, ↓IntWalk.iteOmega, IntWalk.toNatUp, Nat.reduceEqDiff, Nat.reduceAdd, Nat.reduceMul, Nat.reduceSub, Nat.reduceLT, Nat.reduceLeDiff, Int.reduceToNat, Int.reduceLT, Int.reduceLE, Int.reduceEq, Int.reduceAdd, Int.reduceSub, Int.reduceMul, Int.toNat_natCast, reduceCtorEq, decide_true, decide_false, IntWalk.i64_in, IntWalk.u64_in, IntWalk.u8_in, h2, h3, h6, h7, h8, h9, h67]
      exact ⟨r', by omega, r', i + 1, _, _, g', hp, rfl, (List.getElem?_eq_some_iff.1 hR.at_).1, hR.done, hR.next, by omega, o2, o3, o14, o18, rfl, rfl⟩
  · subst hres
    have hbe : (A.getD e.x false == B.getD e.y false) = false := beq_false_of_ne hab
    have hbk := hQ.backL
    generalize A.getD e.x false = za at ga hbe
    generalize B.getD e.y false = zb at gb hbe
    simp (disch := omega) only [go_sem, ↓IntWalk.iteOmega, IntWalk.toNatUp, Nat.reduceEqDiff, Nat.reduceAdd, Nat.reduceMul, Nat.reduceSub, Nat.reduceLT, Nat.reduceLeDiff, Int.reduceToNat, Int.reduceLT, Int.reduceLE, Int.reduceEq, Int.reduceAdd, Int.reduceSub, Int.reduceMul, Int.toNat_natCast, reduceCtorEq, decide_true, decide_false, IntWalk.i64_in, IntWalk.u64_in, IntWalk.u8_in, nzAp, h2, h3, h6, h7, h8, o2, o3, o18, hat, ga, gb, hbe, Bool.not_false]
    refine WP_loop (fun mm a o' nx' => ∃ (q : Nat) (f : Ent) (u : List Nat) (vW : AV), l[q]? = some f ∧ q ≤ i ∧ mm = q ∧ u.length + q ≤ i ∧ e.w = f.w ++ u.reverse ∧ nx + 3 ≤ nx' ∧ HS 3 1 62 o' nx' vW u.length (cI (nL u)) ∧ o' (2, 18) = some (.row ⟨103, 4, g, false, true, cQ l⟩) ∧
        a 7 = .ref (2, 18) g 0 l.length ∧ a 10 = vW ∧ a 11 = .int .i64 q) i (by omega)
      ⟨i, e, [], .nil, he, by omega, rfl, by simp, by simp, by omega, HS.nil, by simp (disch := omega) only [go_sem, ↓IntWalk.iteOmega, IntWalk.toNatUp, Nat.reduceEqDiff, Nat.reduceAdd, Nat.reduceMul, Nat.reduceSub, Nat.reduceLT, Nat.reduceLeDiff, Int.reduceToNat, Int.reduceLT, Int.reduceLE, Int.reduceEq, Int.reduceAdd, Int.reduceSub, Int.reduceMul, Int.toNat_natCast, reduceCtorEq, decide_true, decide_false, IntWalk.i64_in, IntWalk.u64_in, IntWalk.u8_in, o18], by simp (disch := omega) only [go_sem, ↓IntWalk.iteOmega, IntWalk.toNatUp, Nat.reduceEqDiff, Nat.reduceAdd, Nat.reduceMul, Nat.reduceSub, Nat.reduceLT, Nat.reduceLeDiff, Int.reduceToNat, Int.reduceLT, Int.reduceLE, Int.reduceEq, Int.reduceAdd, Int.reduceSub, Int.reduceMul, Int.toNat_natCast, reduceCtorEq, decide_true, decide_false, IntWalk.i64_in, IntWalk.u64_in, IntWalk.u8_in, h7], by simp (disch := omega) only [go_sem, ↓IntWalk.iteOmega, IntWalk.toNatUp, Nat.reduceEqDiff, Nat.reduceAdd, Nat.reduceMul, Nat.reduceSub, Nat.reduceLT, Nat.reduceLeDiff, Int.reduceToNat, Int.reduceLT, Int.reduceLE, Int.reduceEq, Int.reduceAdd, Int.reduceSub, Int.reduceMul, Int.toNat_natCast, reduceCtorEq, decide_true, decide_false, IntWalk.i64_in, IntWalk.u64_in, IntWalk.u8_in], by simp (disch := omega) only [go_sem, ↓IntWalk.iteOmega, IntWalk.toNatUp, Nat.reduceEqDiff, Nat.reduceAdd, Nat.reduceMul, Nat.reduceSub, Nat.reduceLT, Nat.reduceLeDiff, Int.reduceToNat, Int.reduceLT, Int.reduceLE, Int.reduceEq, Int.reduceAdd, Int.reduceSub, Int.reduceMul, Int.toNat_natCast, reduceCtorEq, decide_true, decide_false, IntWalk.i64_in, IntWalk.u64_in, IntWalk.u8_in]⟩ ?_
    clear h2 h3 h6 h7 h8 o2 o3 o14 o18 hat ga gb hbe
    rintro mm a o' nx' ⟨q, f, u, vW, hf, hq', hmm, hul, hwd, hnx', hW, o18, h7, h10, h11⟩
    subst hmm
    have hql := (List.getElem?_eq_some_iff.1 hf).1
    have hat := cQ_at hf
    have hat2 : (cQ l).drop (mm * 4 + 2) = .int .i64 f.b :: .int .i64 (f.m : Nat) :: cQ (l.drop (mm + 1)) := by rw [← List.drop_drop, hat]; rfl
    have hat3 : (cQ l).drop (mm * 4 + 3) = .int .i64 (f.m : Nat) :: cQ (l.drop (mm + 1)) := by rw [← List.drop_drop, hat]; rfl
    rcases hbk.case hf with ⟨a1, a2⟩ | ⟨j, f', a1, a2, a3, a4⟩
    · rw [a2, List.nil_append] at hwd
      have a1' : ¬ 0 ≤ f.b := by omega
      simp (disch := omega) only [go_sem, ↓IntWalk.iteOmega, IntWalk.toNatUp, Nat.reduceEqDiff, Nat.reduceAdd, Nat.reduceMul, Nat.reduceSub, Nat.reduceLT, Nat.reduceLeDiff, Int.reduceToNat, Int.reduceLT, Int.reduceLE, Int.reduceEq, Int.reduceAdd, Int.reduceSub, Int.reduceMul, Int.toNat_natCast, reduceCtorEq, decide_true, decide_false, IntWalk.i64_in, IntWalk.u64_in, IntWalk.u8_in, h7, h10, h11, o18, hat, hat2, hat3, a1', mdA_rev]
      refine rev_call (hW.keep (fun _ _ => rfl) (by omega)) (by omega) fun o2 nx2 hn2 hW2 _ => ?_
      simp (disch := omega) only [go_sem, ↓IntWalk.iteOmega, IntWalk.toNatUp, Nat.reduceEqDiff, Nat.reduceAdd, Nat.reduceMul, Nat.reduceSub, Nat.reduceLT, Nat.reduceLeDiff, Int.reduceToNat, Int.reduceLT, Int.reduceLE, Int.reduceEq, Int.reduceAdd, Int.reduceSub, Int.reduceMul, Int.toNat_natCast, reduceCtorEq, decide_true, decide_false, IntWalk.i64_in, IntWalk.u64_in, IntWalk.u8_in, h7, h10, h11, mdA_clone]
      refine clone_call (HS.keep hW2 (o' := o2) (nx' := nx2 + 1) (fun _ _ => rfl) (by omega)) (by omega) fun v3 o3 nx3 hn3 hv3 => ?_
      simp (disch := omega) only [go_sem, ↓IntWalk.iteOmega, IntWalk.toNatUp, Nat.reduceEqDiff, Nat.reduceAdd, Nat.reduceMul, Nat.reduceSub, Nat.reduceLT, Nat.reduceLeDiff, Int.reduceToNat, Int.reduceLT, Int.reduceLE, Int.reduceEq, Int.reduceAdd, Int.reduceSub, Int.reduceMul, Int.toNat_natCast, reduceCtorEq, decide_true, decide_false, IntWalk.i64_in, IntWalk.u64_in, IntWalk.u8_in, hv3]
      rw [apV, hwd, slI, nL_len, List.length_reverse]
      simp [nL]
    · have a1' : 0 ≤ f.b := by omega
      have hlu : (cI (nL u)).length = u.length * 1 := by rw [cI_length, nL_len, Nat.mul_one]
      obtain ⟨j8, hj8, hap⟩ := hW.app (nx' + 1) 8 1 [.int .i64 (f.m : Nat)] (by omega) rfl rfl (by simp only [maxB]; omega)
      simp (disch := first | omega | (intro _; simp only [upd_app, Nat.reduceEqDiff, if_false])) only [go_sem, ↓IntWalk.iteOmega, IntWalk.toNatUp, Nat.reduceEqDiff, Nat.reduceAdd, Nat.reduceMul, Nat.reduceSub, Nat.reduceLT, Nat.reduceLeDiff, Int.reduceToNat, Int.reduceLT, Int.reduceLE, Int.reduceEq, Int.reduceAdd, Int.reduceSub, Int.reduceMul, Int.toNat_natCast, reduceCtorEq, decide_true, decide_false, IntWalk.i64_in, IntWalk.u64_in, IntWalk.u8_in, h7, h10, h11, o18, hat, hat2, hat3, a1', hap]
      refine ⟨j, by omega, j, f', u ++ [f.m], _, a3, by omega, rfl, by simp only [List.length_append, List.length_cons, List.length_nil]; omega, by rw [hwd, a4]; simp, by omega, ?_, rfl, by rw [a1]⟩
      rw [nL_app, cI_app, List.length_append]
      exact HS.grown (m := 1) (new := [.int .i64 (f.m : Nat)]) (by omega) (by simp [upd_app]) hlu rfl
theorem RFar_mini (args r) (h : RFar args r) : Ok Tryd.prog 33 args r := by obtain ⟨n, k, N, M, A, B, h1, h2, rfl, rfl⟩ := h; exact mapart_ok h1 h2
end Go.Proofs.YtpmjpogcaglphaaDoor.A
/- Machines begun elsewhere, words in their order: the law's own functions; the table with Apart. -/
namespace Go.Proofs.YtpmjpogcaglphaaDoor.A
open Go
set_option maxRecDepth 20000
/-! ### turned -/
def turnL (n s : Nat) : List Nat := (List.range n).map (turnN s)
theorem turnL_len (n s) : (turnL n s).length = n := by simp [turnL]
theorem turnL_at {n s i : Nat} (h : i < n) : (turnL n s).getD i 0 = turnN s i := by
  unfold turnL
  rw [List.getD_eq_getElem?_getD, List.getElem?_map, List.getElem?_range h]
  rfl
theorem turnL_set {n s : Nat} (hs : s < n) : ((nL (List.range n)).set 0 (s : Nat)).set s 0 = nL (turnL n s) := ext_getD (by simp [nL, turnL]) fun p hp => by
  rw [List.length_set, List.length_set, nL_len, List.length_range] at hp
  rw [getD_set _ _ _ _ _ (by rw [List.length_set, nL_len, List.length_range]; exact hs), getD_set _ _ _ _ _ (by rw [nL_len, List.length_range]; omega), nL_get, nL_get, turnL_at hp]
  have e : (List.range n).getD p 0 = p := by rw [List.getD_eq_getElem?_getD, List.getElem?_range hp]; rfl
  rw [e]
  unfold turnN
  by_cases h1 : s = p
  · rw [if_pos h1]
    by_cases h2 : p = 0
    · rw [if_pos h2]; omega
    · rw [if_neg h2, if_pos h1.symm]; rfl
  · rw [if_neg h1]
    by_cases h2 : 0 = p
    · rw [if_pos h2, if_pos h2.symm]
    · rw [if_neg h2, if_neg (fun h => h2 h.symm), if_neg (fun h => h1 h.symm)]
theorem lookTu (X) : lookedAt (EX md0 X) (fun _ => none) 2 Tryd.f59 = true := by kernel_rfl
theorem turned_ok {n s : Nat} (hs : s < n) (hn : n ≤ 100000) : Ok Tryd.prog 59 [.int .i64 n, .int .i64 s] (.sl n (cI (nL (turnL n s)))) := by
  refine ok_of_WP (E := EX md0 (fun _ _ => none)) (cr := noR) (tab_nil _) (noR_ok _) mixed (k := n + 1) Tryd.func59 (lookTu _) rfl ?_
  simp only [Tryd.f59, Option.getD_some]
  simp (disch := omega) only [go_sem, ↓IntWalk.iteOmega, IntWalk.toNatUp, Nat.reduceEqDiff, Nat.reduceAdd, Nat.reduceMul, Nat.reduceSub, Nat.reduceLT, Nat.reduceLeDiff, Int.reduceToNat, Int.reduceLT, Int.reduceLE, Int.reduceEq, Int.reduceAdd, Int.reduceSub, Int.reduceMul, Int.toNat_natCast, reduceCtorEq, decide_true, decide_false, IntWalk.i64_in, IntWalk.u64_in, IntWalk.u8_in]
  refine WP_loop (fun mm a o nx => ∃ (i : Nat) (vT : AV), i ≤ n ∧ mm = n - i ∧ HS 3 1 15 o nx vT i (cI (nL (List.range i))) ∧ a 0 = .int .i64 n ∧ a 1 = .int .i64 s ∧ a 5 = vT ∧ a 6 = .int .i64 i) n (by omega) ⟨0, .nil, by omega, by omega, HS.nil, by simp (disch := omega) only [go_sem, ↓IntWalk.iteOmega, IntWalk.toNatUp, Nat.reduceEqDiff, Nat.reduceAdd, Nat.reduceMul, Nat.reduceSub, Nat.reduceLT, Nat.reduceLeDiff, Int.reduceToNat, Int.reduceLT, Int.reduceLE, Int.reduceEq, Int.reduceAdd, Int.reduceSub, Int.reduceMul, Int.toNat_natCast, reduceCtorEq, decide_true, decide_false, IntWalk.i64_in, IntWalk.u64_in, IntWalk.u8_in], by simp (disch := omega) only [go_sem, ↓IntWalk.iteOmega, IntWalk.toNatUp, Nat.reduceEqDiff, Nat.reduceAdd, Nat.reduceMul, Nat.reduceSub, Nat.reduceLT, Nat.reduceLeDiff, Int.reduceToNat, Int.reduceLT, Int.reduceLE, Int.reduceEq, Int.reduceAdd, Int.reduceSub, Int.reduceMul, Int.toNat_natCast, reduceCtorEq, decide_true, decide_false, IntWalk.i64_in, IntWalk.u64_in, IntWalk.u8_in], by simp (disch := omega) only [go_sem, ↓IntWalk.iteOmega, IntWalk.toNatUp, Nat.reduceEqDiff, Nat.reduceAdd, Nat.reduceMul, Nat.reduceSub, Nat.reduceLT, Nat.reduceLeDiff, Int.reduceToNat, Int.reduceLT, Int.reduceLE, Int.reduceEq, Int.reduceAdd, Int.reduceSub, Int.reduceMul, Int.toNat_natCast, reduceCtorEq, decide_true, decide_false, IntWalk.i64_in, IntWalk.u64_in, IntWalk.u8_in], by simp (disch := omega) only [go_sem, ↓IntWalk.iteOmega, IntWalk.toNatUp, Nat.reduceEqDiff, Nat.reduceAdd, Nat.reduceMul, Nat.reduceSub, Nat.reduceLT, Nat.reduceLeDiff, Int.reduceToNat, Int.reduceLT, Int.reduceLE, Int.reduceEq, Int.reduceAdd, Int.reduceSub, Int.reduceMul, Int.toNat_natCast, reduceCtorEq, decide_true, decide_false, IntWalk.i64_in, IntWalk.u64_in, IntWalk.u8_in]⟩ ?_
  rintro mm a o nx ⟨i, vT, hi, rfl, hT, h0, h1, h5, h6⟩
  by_cases hlt : i < n
  · have hdl : (cI (nL (List.range i))).length = i * 1 := by rw [cI_length, nL_len, List.length_range]; omega
    obtain ⟨j8, hj8, hap⟩ := hT.app (nx + 1) 8 1 [.int .i64 (i : Nat)] (by omega) rfl rfl (by simp only [maxB]; omega)
    simp (disch := first | omega | (intro _; simp only [upd_app, Nat.reduceEqDiff, if_false])) only [go_sem, ↓IntWalk.iteOmega, IntWalk.toNatUp, Nat.reduceEqDiff, Nat.reduceAdd, Nat.reduceMul, Nat.reduceSub, Nat.reduceLT, Nat.reduceLeDiff, Int.reduceToNat, Int.reduceLT, Int.reduceLE, Int.reduceEq, Int.reduceAdd, Int.reduceSub, Int.reduceMul, Int.toNat_natCast, reduceCtorEq, decide_true, decide_false, IntWalk.i64_in, IntWalk.u64_in, IntWalk.u8_in, h0, h1, h5, h6, hap]
    refine ⟨n - (i + 1), by omega, i + 1, _, by omega, rfl, ?_, rfl, rfl⟩
    rw [List.range_succ, nL_app, cI_app]
    exact HS.grown (m := 1) (new := [.int .i64 (i : Nat)]) (by omega) (by simp [upd_app]) hdl rfl
  · have hie : i = n := by omega
    subst hie
    rcases hT with ⟨_, h0', _⟩ | ⟨iT, gT, rfl, hiT, hrT, _⟩
    · omega
    have hl : (cI (nL (List.range i))).length = i := by rw [cI_length, nL_len, List.length_range]
    have hl2 : (AV.int .i64 (s : Nat) :: List.drop 1 (cI (nL (List.range i)))).length = i := by rw [List.length_cons, List.length_drop, hl]; omega
    have hset : splice (AV.int .i64 (s : Nat) :: List.drop 1 (cI (nL (List.range i)))) s [.int .i64 0] = cI (nL (turnL i s)) := by
      have e1 : (AV.int .i64 (s : Nat) :: List.drop 1 (cI (nL (List.range i)))) = splice (cI (nL (List.range i))) 0 [.int .i64 (s : Nat)] := by rw [splice_zero]; rfl
      rw [e1, cI_set _ _ _ (by rw [nL_len, List.length_range]; omega), cI_set _ _ _ (by rw [List.length_set, nL_len, List.length_range]; exact hs), turnL_set hs]
    have htk : (cI (nL (turnL i s))).take i = cI (nL (turnL i s)) := take_len (by rw [cI_length, nL_len, turnL_len])
    have hl3 : (cI (nL (turnL i s))).length = i := by rw [cI_length, nL_len, turnL_len]
    simp (disch := omega) only [go_sem, ↓IntWalk.iteOmega, IntWalk.toNatUp, Nat.reduceEqDiff, Nat.reduceAdd, Nat.reduceMul, Nat.reduceSub, Nat.reduceLT, Nat.reduceLeDiff, Int.reduceToNat, Int.reduceLT, Int.reduceLE, Int.reduceEq, Int.reduceAdd, Int.reduceSub, Int.reduceMul, Int.toNat_natCast, reduceCtorEq, decide_true, decide_false, IntWalk.i64_in, IntWalk.u64_in, IntWalk.u8_in, h0, h1, h5, h6, hrT, hl, hl2, hl3, hset, htk]
def RTu (args : List AV) (r : AV) : Prop := ∃ n s : Nat, s < n ∧ n ≤ 100000 ∧ args = [.int .i64 n, .int .i64 s] ∧ r = .sl n (cI (nL (turnL n s)))
theorem RTu_fn : Fun1 RTu := by
  rintro args r r' ⟨n, s, _, _, rfl, rfl⟩ ⟨n', s', _, _, h, rfl⟩
  simp only [List.cons.injEq, AV.int.injEq, true_and, and_true] at h
  rw [show n = n' by omega, show s = s' by omega]
theorem RTu_ok (args r) (h : RTu args r) : Ok Tryd.prog 59 args r := by obtain ⟨n, s, h1, h2, rfl, rfl⟩ := h; exact turned_ok h1 h2
noncomputable def XTu : FuncId → List AV → Option AV := tabLook [(59, tRel RTu)]
theorem XTu_ok : CPSound Tryd.prog XTu := tab_cons (tab_nil _) (tRel_ok RTu_ok)
theorem XTu_eq {n s : Nat} (h1 : s < n) (h2 : n ≤ 100000) : XTu 59 [.int .i64 n, .int .i64 s] = some (.sl n (cI (nL (turnL n s)))) := tRel_eq (R := RTu) RTu_fn ⟨_, _, h1, h2, rfl, rfl⟩
/-! ### from -/
def frR (N : List Int) (s i m : Nat) : List Nat := (List.range m).map fun j => turnN s (N.getD (turnN s i * 5 + j) 0).toNat
def frN (N : List Int) (s i : Nat) : List Nat := (List.range (i * 5)).map fun p => turnN s (N.getD (turnN s (p / 5) * 5 + p % 5) 0).toNat
def frA (A : List Bool) (s i : Nat) : List Bool := (List.range i).map fun i => A.getD (turnN s i) false
theorem frR_len (N s i m) : (frR N s i m).length = m := by simp [frR]
theorem frN_len (N s i) : (frN N s i).length = i * 5 := by simp [frN]
theorem frA_len (A s i) : (frA A s i).length = i := by simp [frA]
theorem frR_succ (N s i m) : frR N s i (m + 1) = frR N s i m ++ [turnN s (N.getD (turnN s i * 5 + m) 0).toNat] := by simp [frR, List.range_succ]
theorem frN_succ (N s i) : frN N s (i + 1) = frN N s i ++ frR N s i 5 := by
  rw [frN, show (i + 1) * 5 = i * 5 + 5 by omega, List.range_add, List.map_append, List.map_map]
  congr 1
  unfold frR
  refine List.map_congr_left fun j hj => ?_
  have := List.mem_range.1 hj
  simp only [Function.comp]
  rw [show (i * 5 + j) / 5 = i by omega, show (i * 5 + j) % 5 = j by omega]
theorem frA_succ (A s i) : frA A s (i + 1) = frA A s i ++ [A.getD (turnN s i) false] := by simp [frA, List.range_succ]
theorem fromN_fr (N : List Int) (n s : Nat) : fromN N n s = nL (frN N s n) := by
  unfold fromN frN nL
  rw [List.map_map, Nat.mul_comm]
  rfl
theorem fromA_fr {n : Nat} {A : List Bool} (h : A.length = n) (s : Nat) : fromA A s = frA A s n := by rw [fromA, h]; rfl
def nzFr : Nat → Option (List (Nat × Nat))
  | 12 => some [(1, 10)]
  | _ => none
theorem lookFr : lookedAt (EX md0 XTu) nzFr 2 Tryd.f34 = true := by kernel_rfl
set_option maxHeartbeats 4000000 in
theorem from_wp {n : Nat} {N : List Int} {A : List Bool} (hw : WfD n N A) {s : Nat} (hs : s < n) :
    WP (EX md0 XTu) noR 2005 nzFr (Tryd.f34.body.getD .skip) (begin_ [dfaV n N A, .int .i64 s]) (fun _ => none) 0 (fun u a o nx => u = .ret ∧ view o vDepth ((aLoad Tryd.prog 27 (a 4) ⟨o, nx⟩).getD .und) = .agg [.sl n (cI (nL (frN N s n))), .sl n (cB (frA A s n))]) := by
  have hn := hw.sz
  have hN := hw.l
  have hA := hw.a
  have htu := XTu_eq hs (by omega : n ≤ 100000)
  have hll : (cI (nL (turnL n s))).length = n := by rw [cI_length, nL_len, turnL_len]
  simp only [Tryd.f34, Option.getD_some]
  rw [dfaV, slB, hA]
  simp (disch := omega) only [go_sem, ↓IntWalk.iteOmega, IntWalk.toNatUp, Nat.reduceEqDiff, Nat.reduceAdd, Nat.reduceMul, Nat.reduceSub, Nat.reduceLT, Nat.reduceLeDiff, Int.reduceToNat, Int.reduceLT, Int.reduceLE, Int.reduceEq, Int.reduceAdd, Int.reduceSub, Int.reduceMul, Int.toNat_natCast, reduceCtorEq, decide_true, decide_false, IntWalk.i64_in, IntWalk.u64_in, IntWalk.u8_in, htu]
  refine WP_loop (fun mm a o nx => ∃ (i : Nat) (vN vA : AV), i ≤ n ∧ mm = n - i ∧ 3 ≤ nx ∧ HS 54 5 45 o nx vN i (cI (nL (frN N s i))) ∧ HS 4 1 58 o nx vA i (cB (frA A s i)) ∧
      o (0, 2) = some (.row ⟨27, 1, (0, 2), false, true, [.sl n (cI N), .sl n (cB A)]⟩) ∧ o (0, 4) = some (.row ⟨27, 1, (0, 4), false, true, [.nil, .nil]⟩) ∧ o (1, 5) = some (.row ⟨27, 1, (1, 5), false, true, [vN, vA]⟩) ∧
      a 2 = .ptr (0, 2) (0, 2) 0 ∧ a 4 = .ptr (0, 4) (0, 4) 0 ∧ a 5 = .ptr (1, 5) (1, 5) 0 ∧ a 6 = .sl n (cI (nL (turnL n s))) ∧ a 7 = .int .i64 i) n (by omega)
    ⟨0, .nil, .nil, by omega, by omega, by omega, HS.nil, HS.nil, by simp (disch := omega) only [go_sem, ↓IntWalk.iteOmega, IntWalk.toNatUp, Nat.reduceEqDiff, Nat.reduceAdd, Nat.reduceMul, Nat.reduceSub, Nat.reduceLT, Nat.reduceLeDiff, Int.reduceToNat, Int.reduceLT, Int.reduceLE, Int.reduceEq, Int.reduceAdd, Int.reduceSub, Int.reduceMul, Int.toNat_natCast, reduceCtorEq, decide_true, decide_false, IntWalk.i64_in, IntWalk.u64_in, IntWalk.u8_in], by simp (disch := omega) only [go_sem, ↓IntWalk.iteOmega, IntWalk.toNatUp, Nat.reduceEqDiff, Nat.reduceAdd, Nat.reduceMul, Nat.reduceSub, Nat.reduceLT, Nat.reduceLeDiff, Int.reduceToNat, Int.reduceLT, Int.reduceLE, Int.reduceEq, Int.reduceAdd, Int.reduceSub, Int.reduceMul, Int.toNat_natCast, reduceCtorEq, decide_true, decide_false, IntWalk.i64_in, IntWalk.u64_in, IntWalk.u8_in], by simp (disch := omega) only [go_sem, ↓IntWalk.iteOmega, IntWalk.toNatUp, Nat.reduceEqDiff, Nat.reduceAdd, Nat.reduceMul, Nat.reduceSub, Nat.reduceLT, Nat.reduceLeDiff, Int.reduceToNat, Int.reduceLT, Int.reduceLE, Int.reduceEq, Int.reduceAdd, Int.reduceSub, Int.reduceMul, Int.toNat_natCast, reduceCtorEq, decide_true, decide_false, IntWalk.i64_in, IntWalk.u64_in, IntWalk.u8_in], by simp (disch := omega) only [go_sem, ↓IntWalk.iteOmega, IntWalk.toNatUp, Nat.reduceEqDiff, Nat.reduceAdd, Nat.reduceMul, Nat.reduceSub, Nat.reduceLT, Nat.reduceLeDiff, Int.reduceToNat, Int.reduceLT, Int.reduceLE, Int.reduceEq, Int.reduceAdd, Int.reduceSub, Int.reduceMul, Int.toNat_natCast, reduceCtorEq, decide_true, decide_false, IntWalk.i64_in, IntWalk.u64_in, IntWalk.u8_in], by simp (disch := omega) only [go_sem, ↓IntWalk.iteOmega, IntWalk.toNatUp, Nat.reduceEqDiff, Nat.reduceAdd, Nat.reduceMul, Nat.reduceSub, Nat.reduceLT, Nat.reduceLeDiff, Int.reduceToNat, Int.reduceLT, Int.reduceLE, Int.reduceEq, Int.reduceAdd, Int.reduceSub, Int.reduceMul, Int.toNat_natCast, reduceCtorEq, decide_true, decide_false, IntWalk.i64_in, IntWalk.u64_in, IntWalk.u8_in], by simp (disch := omega) only [go_sem, ↓IntWalk.iteOmega, IntWalk.toNatUp, Nat.reduceEqDiff, Nat.reduceAdd, Nat.reduceMul, Nat.reduceSub, Nat.reduceLT, Nat.reduceLeDiff, Int.reduceToNat, Int.reduceLT, Int.reduceLE, Int.reduceEq, Int.reduceAdd, Int.reduceSub, Int.reduceMul, Int.toNat_natCast, reduceCtorEq, decide_true, decide_false, IntWalk.i64_in, IntWalk.u64_in, IntWalk.u8_in], by simp (disch := omega) only [go_sem, ↓IntWalk.iteOmega, IntWalk.toNatUp, Nat.reduceEqDiff, Nat.reduceAdd, Nat.reduceMul, Nat.reduceSub, Nat.reduceLT, Nat.reduceLeDiff, Int.reduceToNat, Int.reduceLT, Int.reduceLE, Int.reduceEq, Int.reduceAdd, Int.reduceSub, Int.reduceMul, Int.toNat_natCast, reduceCtorEq, decide_true, decide_false, IntWalk.i64_in, IntWalk.u64_in, IntWalk.u8_in], by simp (disch := omega) only [go_sem, ↓IntWalk.iteOmega, IntWalk.toNatUp, Nat.reduceEqDiff, Nat.reduceAdd, Nat.reduceMul, Nat.reduceSub, Nat.reduceLT, Nat.reduceLeDiff, Int.reduceToNat, Int.reduceLT, Int.reduceLE, Int.reduceEq, Int.reduceAdd, Int.reduceSub, Int.reduceMul, Int.toNat_natCast, reduceCtorEq, decide_true, decide_false, IntWalk.i64_in, IntWalk.u64_in, IntWalk.u8_in]⟩ ?_
  rintro mm a o nx ⟨i, vN, vA, hi, rfl, hnx, hvN, hvA, o2, o4, o5, h2, h4, h5, h6, h7⟩
  by_cases hlt : i < n
  · have hti := turnN_lt hs hlt
    have q1 := nL_at (l := turnL n s) (i := i) (s := 1) (by rw [turnL_len]; exact hlt)
    rw [turnL_at hlt] at q1
    simp (disch := omega) only [go_sem, ↓IntWalk.iteOmega, IntWalk.toNatUp, Nat.reduceEqDiff, Nat.reduceAdd, Nat.reduceMul, Nat.reduceSub, Nat.reduceLT, Nat.reduceLeDiff, Int.reduceToNat, Int.reduceLT, Int.reduceLE, Int.reduceEq, Int.reduceAdd, Int.reduceSub, Int.reduceMul, Int.toNat_natCast, reduceCtorEq, decide_true, decide_false, IntWalk.i64_in, IntWalk.u64_in, IntWalk.u8_in, h2, h4, h5, h6, h7, o2, nzFr]
    refine WP_loop (fun mm a o' nx' => ∃ m : Nat, m ≤ 5 ∧ mm = 5 - m ∧ nx + 3 ≤ nx' ∧ Frz [2, 4, 5, 45, 58] nx o o' ∧ o' (nx + 1, 8) = some (.row ⟨54, 1, (nx + 1, 8), false, true, cI (nL (frR N s i m) ++ List.replicate (5 - m) 0)⟩) ∧
        a 2 = .ptr (0, 2) (0, 2) 0 ∧ a 4 = .ptr (0, 4) (0, 4) 0 ∧ a 5 = .ptr (1, 5) (1, 5) 0 ∧ a 6 = .sl n (cI (nL (turnL n s))) ∧ a 7 = .int .i64 i ∧ a 8 = .ptr (nx + 1, 8) (nx + 1, 8) 0 ∧ a 9 = .int .i64 m) 5 (by omega)
      ⟨0, by omega, by omega, by omega, (Frz.refl _ _ _).upd (.inl (by omega)), upd_same _ _ _, by simp (disch := omega) only [go_sem, ↓IntWalk.iteOmega, IntWalk.toNatUp, Nat.reduceEqDiff, Nat.reduceAdd, Nat.reduceMul, Nat.reduceSub, Nat.reduceLT, Nat.reduceLeDiff, Int.reduceToNat, Int.reduceLT, Int.reduceLE, Int.reduceEq, Int.reduceAdd, Int.reduceSub, Int.reduceMul, Int.toNat_natCast, reduceCtorEq, decide_true, decide_false, IntWalk.i64_in, IntWalk.u64_in, IntWalk.u8_in, h2], by simp (disch := omega) only [go_sem, ↓IntWalk.iteOmega, IntWalk.toNatUp, Nat.reduceEqDiff, Nat.reduceAdd, Nat.reduceMul, Nat.reduceSub, Nat.reduceLT, Nat.reduceLeDiff, Int.reduceToNat, Int.reduceLT, Int.reduceLE, Int.reduceEq, Int.reduceAdd, Int.reduceSub, Int.reduceMul, Int.toNat_natCast, reduceCtorEq, decide_true, decide_false, IntWalk.i64_in, IntWalk.u64_in, IntWalk.u8_in, h4], by simp (disch := omega) only [go_sem, ↓IntWalk.iteOmega, IntWalk.toNatUp, Nat.reduceEqDiff, Nat.reduceAdd, Nat.reduceMul, Nat.reduceSub, Nat.reduceLT, Nat.reduceLeDiff, Int.reduceToNat, Int.reduceLT, Int.reduceLE, Int.reduceEq, Int.reduceAdd, Int.reduceSub, Int.reduceMul, Int.toNat_natCast, reduceCtorEq, decide_true, decide_false, IntWalk.i64_in, IntWalk.u64_in, IntWalk.u8_in, h5], by simp (disch := omega) only [go_sem, ↓IntWalk.iteOmega, IntWalk.toNatUp, Nat.reduceEqDiff, Nat.reduceAdd, Nat.reduceMul, Nat.reduceSub, Nat.reduceLT, Nat.reduceLeDiff, Int.reduceToNat, Int.reduceLT, Int.reduceLE, Int.reduceEq, Int.reduceAdd, Int.reduceSub, Int.reduceMul, Int.toNat_natCast, reduceCtorEq, decide_true, decide_false, IntWalk.i64_in, IntWalk.u64_in, IntWalk.u8_in, h6], by simp (disch := omega) only [go_sem, ↓IntWalk.iteOmega, IntWalk.toNatUp, Nat.reduceEqDiff, Nat.reduceAdd, Nat.reduceMul, Nat.reduceSub, Nat.reduceLT, Nat.reduceLeDiff, Int.reduceToNat, Int.reduceLT, Int.reduceLE, Int.reduceEq, Int.reduceAdd, Int.reduceSub, Int.reduceMul, Int.toNat_natCast, reduceCtorEq, decide_true, decide_false, IntWalk.i64_in, IntWalk.u64_in, IntWalk.u8_in, h7], by simp (disch := omega) only [go_sem, ↓IntWalk.iteOmega, IntWalk.toNatUp, Nat.reduceEqDiff, Nat.reduceAdd, Nat.reduceMul, Nat.reduceSub, Nat.reduceLT, Nat.reduceLeDiff, Int.reduceToNat, Int.reduceLT, Int.reduceLE, Int.reduceEq, Int.reduceAdd, Int.reduceSub, Int.reduceMul, Int.toNat_natCast, reduceCtorEq, decide_true, decide_false, IntWalk.i64_in, IntWalk.u64_in, IntWalk.u8_in], by simp (disch := omega) only [go_sem, ↓IntWalk.iteOmega, IntWalk.toNatUp, Nat.reduceEqDiff, Nat.reduceAdd, Nat.reduceMul, Nat.reduceSub, Nat.reduceLT, Nat.reduceLeDiff, Int.reduceToNat, Int.reduceLT, Int.reduceLE, Int.reduceEq, Int.reduceAdd, Int.reduceSub, Int.reduceMul, Int.toNat_natCast, reduceCtorEq, decide_true, decide_false, IntWalk.i64_in, IntWalk.u64_in, IntWalk.u8_in]⟩ ?_
    clear h2 h4 h5 h6 h7
    rintro mm a o' nx' ⟨m, hm, rfl, hnx', hkp, o8, h2, h4, h5, h6, h7, h8, h9⟩
    have o2' := (hkp 0 2 (by omega) (by decide)).trans o2
    have o4' := (hkp 0 4 (by omega) (by decide)).trans o4
    have o5' := (hkp 1 5 (by omega) (by decide)).trans o5
    by_cases hm5 : m < 5
    · have hent := hw.get (k := turnN s i * 5 + m) (by omega)
      have hsucc := frR_succ N s i m
      have q2 : take1 false 1 (((cI N).drop (turnN s i * 5)).drop m) = some (.int .i64 (N.getD (turnN s i * 5 + m) 0)) := by
        rw [List.drop_drop]; exact cI_get (by omega)
      have hto : N.getD (turnN s i * 5 + m) 0 = ((N.getD (turnN s i * 5 + m) 0).toNat : Nat) := by omega
      have hton : (N.getD (turnN s i * 5 + m) 0).toNat < n := by omega
      generalize (N.getD (turnN s i * 5 + m) 0).toNat = to at *
      rw [hto] at q2
      have q3 := nL_at (l := turnL n s) (i := to) (s := 1) (by rw [turnL_len]; exact hton)
      rw [turnL_at hton] at q3
      have hset := set_row (frR N s i m) 5 m (turnN s to) (frR_len N s i m) hm5
      rw [← hsucc] at hset
      have hl8 : (cI (nL (frR N s i m) ++ List.replicate (5 - m) 0)).length = 5 := by rw [cI_length, List.length_append, nL_len, List.length_replicate, frR_len]; omega
      generalize turnN s i = ti at *
      generalize turnN s to = tt at *
      simp (disch := omega) only [go_sem, ↓IntWalk.iteOmega, IntWalk.toNatUp, Nat.reduceEqDiff, Nat.reduceAdd, Nat.reduceMul, Nat.reduceSub, Nat.reduceLT, Nat.reduceLeDiff, Int.reduceToNat, Int.reduceLT, Int.reduceLE, Int.reduceEq, Int.reduceAdd, Int.reduceSub, Int.reduceMul, Int.toNat_natCast, reduceCtorEq, decide_true, decide_false, IntWalk.i64_in, IntWalk.u64_in, IntWalk.u8_in, h2, h4, h5, h6, h7, h8, h9, o2', o8, q1, q2, q3, hset, hl8, hll, nzFr]
      exact ⟨5 - (m + 1), by omega, m + 1, by omega, rfl, by omega, hkp.upd (.inl (by omega)), rfl, rfl⟩
    · have hme : m = 5 := by omega
      subst hme
      rw [Nat.sub_self, List.replicate_zero, List.append_nil] at o8
      have hl6 : (cI (nL (frR N s i 5))).length = 5 := by rw [cI_length, nL_len, frR_len]
      have htk5 : (cI (nL (frR N s i 5))).take 5 = cI (nL (frR N s i 5)) := take_len hl6
      have hok5 := cI_ok (nL (frR N s i 5))
      have hvN' := hvN.keep (fun j hj => hkp j 45 hj (by decide)) (show nx ≤ nx' by omega)
      have hvA' := hvA.keep (fun j hj => hkp j 58 hj (by decide)) (show nx ≤ nx' by omega)
      have q2 := cB_get (l := A) (i := turnN s i) (s := 1) (by omega)
      obtain ⟨j8, hj8, hap8⟩ := hvN'.app (nx' + 1) 40 1 (cI (nL (frR N s i 5))) (by omega) (by rw [hl6]) hok5 (by simp only [maxB]; omega)
      obtain ⟨j9, hj9, hap9⟩ := hvA'.app (nx' + 2) 1 1 [.bool (A.getD (turnN s i) false)] (by omega) rfl rfl (by simp only [maxB]; omega)
      have hRR : cI (nL (frN N s (i + 1))) = cI (nL (frN N s i)) ++ cI (nL (frR N s i 5)) := by rw [frN_succ, nL_app, cI_app]
      have hAA : cB (frA A s (i + 1)) = cB (frA A s i) ++ [.bool (A.getD (turnN s i) false)] := by rw [frA_succ, cB_app]; rfl
      have hokN := hvN'.ok
      have hokA := hvA'.ok
      have hlR : (cI (nL (frN N s i))).length = i * 5 := by rw [cI_length, nL_len, frN_len]
      have hlAc : (cB (frA A s i)).length = i * 1 := by rw [cB_length, frA_len]; omega
      generalize A.getD (turnN s i) false = z at *
      generalize turnN s i = ti at *
      generalize frR N s i 5 = R' at *
      simp (disch := first | omega | (intro _; simp only [upd_app, Nat.reduceEqDiff, if_false])) only [go_sem, ↓IntWalk.iteOmega, IntWalk.toNatUp, Nat.reduceEqDiff, Nat.reduceAdd, Nat.reduceMul, Nat.reduceSub, Nat.reduceLT, Nat.reduceLeDiff, Int.reduceToNat, Int.reduceLT, Int.reduceLE, Int.reduceEq, Int.reduceAdd, Int.reduceSub, Int.reduceMul, Int.toNat_natCast, reduceCtorEq, decide_true, decide_false, IntWalk.i64_in, IntWalk.u64_in, IntWalk.u8_in, h2, h4, h5, h6, h7, h8, h9, o2', o4', o5', o8, q1, q2, hl6, htk5, hok5, hap8, hap9, hokN, hokA, hll, nzFr]
      refine ⟨n - (i + 1), by omega, i + 1, _, _, by omega, rfl, ?_, ?_, rfl, rfl⟩
      · rw [hRR]
        exact HS.grown (m := 1) (by omega) (by simp [upd_app]) hlR (by rw [hl6])
      · rw [hAA]
        exact HS.grown (m := 1) (new := [.bool z]) (by omega) (by simp [upd_app]) hlAc rfl
  · have hie : i = n := by omega
    subst hie
    have e1 : ∀ y, view (upd o (0, 4) y) 1011 vN = .sl i (cI (nL (frN N s i))) := fun y => by rw [(hvN.keep (o' := upd o (0, 4) y) (nx' := nx) (fun i hi => by simp [upd_app]) (Nat.le_refl _)).view 1010, view_cI]
    have e2 : ∀ y, view (upd o (0, 4) y) 1011 vA = .sl i (cB (frA A s i)) := fun y => by rw [(hvA.keep (o' := upd o (0, 4) y) (nx' := nx) (fun i hi => by simp [upd_app]) (Nat.le_refl _)).view 1010, view_cB]
    have e3 := hvN.ok
    have e4 := hvA.ok
    simp (disch := omega) only [go_sem, ↓IntWalk.iteOmega, IntWalk.toNatUp, Nat.reduceEqDiff, Nat.reduceAdd, Nat.reduceMul, Nat.reduceSub, Nat.reduceLT, Nat.reduceLeDiff, Int.reduceToNat, Int.reduceLT, Int.reduceLE, Int.reduceEq, Int.reduceAdd, Int.reduceSub, Int.reduceMul, Int.toNat_natCast, reduceCtorEq, decide_true, decide_false, IntWalk.i64_in, IntWalk.u64_in, IntWalk.u8_in, h2, h4, h5, h6, h7, o2, o4, o5, e1, e2, e3, e4, nzFr]
theorem from_ok {n : Nat} {N : List Int} {A : List Bool} (hw : WfD n N A) {s : Nat} (hs : s < n) : Ok Tryd.prog 34 [dfaV n N A, .int .i64 s] (.agg [.sl n (cI (fromN N n s)), .sl n (cB (fromA A s))]) := by
  rw [fromN_fr, fromA_fr hw.a]
  refine ok_of_WP (E := EX md0 XTu) (cr := noR) XTu_ok (noR_ok _) mixed (k := 2005) Tryd.func34 lookFr rfl (WP_mono (from_wp hw hs) ?_)
  rintro u a o nx ⟨rfl, h⟩
  refine ⟨.inr rfl, ?_⟩
  simp only [Tryd.f34, resultsL_cons, resultsL_nil, result1_cell, result1_tmp]
  cases hl : aLoad Tryd.prog 27 (a 4) ⟨o, nx⟩ with
  | none =>
    rw [hl] at h
    cases h
  | some v =>
    rw [hl] at h
    show wO (consO (aLoad Tryd.prog 27 (a 4) ⟨o, nx⟩) (some [])) _
    rw [hl]
    exact h
theorem from_wf {n N A} (h : WfD n N A) {s : Nat} (hs : s < n) : WfD n (fromN N n s) (fromA A s) := by
  have hO := from_okD h.okD (s := s) (by rw [h.a]; exact hs)
  have := hO.wf (by rw [fromN, List.length_map, List.length_range, fromA_len]) (by rw [fromA_len]; have := h.sz; have := h.a; omega)
  rw [fromA_len, h.a] at this
  exact this
def RFrm (args : List AV) (r : AV) : Prop := ∃ (n : Nat) (N : List Int) (A : List Bool) (s : Nat), WfD n N A ∧ s < n ∧ args = [dfaV n N A, .int .i64 s] ∧ r = .agg [.sl n (cI (fromN N n s)), .sl n (cB (fromA A s))]
theorem RFrm_fn : Fun1 RFrm := by
  rintro args r r' ⟨n, N, A, s, _, _, rfl, rfl⟩ ⟨n', N', A', s', _, _, h, rfl⟩
  simp only [List.cons.injEq, AV.int.injEq, true_and, and_true] at h
  obtain ⟨h1, h2, h3⟩ := dfaV_inj h.1
  rw [h1, h2, h3, show s = s' by omega]
theorem RFrm_ok (args r) (h : RFrm args r) : Ok Tryd.prog 34 args r := by obtain ⟨n, N, A, s, h1, h2, rfl, rfl⟩ := h; exact from_ok h1 h2
/-! ### the table -/
noncomputable def XM1 : FuncId → List AV → Option AV := tabLook [(14, tRel RKn8), (15, tRel RMk7), (16, tRel RMin), (27, tRel RSa), (17, tRel RSa), (21, tRel RChk0), (32, tRel RRn), (29, tRel RWord), (30, tRel RW), (33, tRel RFar), (26, tRel RFar), (34, tRel RFrm)]
theorem XM1_ok : CPSound Tryd.prog XM1 := tab_cons (tab_cons (tab_cons (tab_cons (tab_cons (tab_cons (tab_cons (tab_cons (tab_cons (tab_cons (tab_cons (tab_cons (tab_nil _) (tRel_ok RFrm_ok)) (tRel_ok RFar_ref)) (tRel_ok RFar_mini)) (tRel_ok within4_ok)) (tRel_ok RWord_ok)) (tRel_ok RRn_ok)) (tRel_ok RChk0_ok)) (tRel_ok RSa_ref)) (tRel_ok RSa_mini)) (tRel_ok RMin_mini)) (tRel_ok RMk7_ok)) (tRel_ok RKn8_ok)
theorem XM1_known : XM1 14 [] = some (.bool true) := tRel_eq (R := RKn8) RKn8_fn ⟨rfl, rfl⟩
theorem XM1_make (size : Int) (ns : List Int) (acc : Int) : XM1 15 [.int .i64 size, slI ns, .int .i64 acc] = some (dV (size7 size) (N7 size ns acc) (A7 size acc)) := by
  rw [← dV_of (accs7_len acc (size7 size))]
  exact tRel_eq (R := RMk7) RMk7_fn ⟨_, _, _, rfl, rfl⟩
theorem XM1_min {n N A} (h : WfD n N A) : XM1 16 [dV n N A] = some (dV (minA N A).length (minN N A) (minA N A)) := by
  rw [← dV_of h.a, ← dV_of rfl]
  exact tRel_eq (R := RMin) RMin_fn ⟨_, _, _, h, rfl, rfl⟩
theorem XM1_same {n N A k M B} (h : WfD n N A) (h' : WfD k M B) : XM1 27 [dV n N A, dV k M B] = some (.bool (decide (A = B ∧ N = M))) := by
  rw [← dV_of h.a, ← dV_of h'.a]
  exact tRel_eq (R := RSa) RSa_fn ⟨_, _, _, _, _, _, h.l, h'.l, by have := h.sz; omega, h.a, h'.a, rfl, rfl⟩
theorem XM1_rsame {n N A k M B} (h : WfD n N A) (h' : WfD k M B) : XM1 17 [dV n N A, dV k M B] = some (.bool (decide (A = B ∧ N = M))) := by
  rw [← dV_of h.a, ← dV_of h'.a]
  exact tRel_eq (R := RSa) RSa_fn ⟨_, _, _, _, _, _, h.l, h'.l, by have := h.sz; omega, h.a, h'.a, rfl, rfl⟩
theorem XM1_chk {n N A} (h : WfD n N A) : XM1 21 [dV n N A] = some (.bool true) := by
  rw [← dV_of h.a]
  exact tRel_eq (R := RChk0) RChk0_fn ⟨_, _, _, h, rfl, rfl⟩
theorem XM1_run {n N A} (h : WfD n N A) (w : List Int) (hl : w.length ≤ 1000000) : XM1 32 [dV n N A, slI w] = some (.bool (runD n N A w)) := by
  rw [← dV_of h.a]
  exact tRel_eq (R := RRn) RRn_fn ⟨_, _, _, _, h, hl, rfl, rfl⟩
theorem XM1_word (ns : List Int) (most few : Int) (h : 0 ≤ most ∧ most ≤ 1000) : XM1 29 [slI ns, .int .i64 most, .int .i64 few] = some (slI (wordOf ns most few)) := tRel_eq (R := RWord) RWord_fn ⟨_, _, _, h, rfl, rfl⟩
theorem XM1_within (a n : Int) (h1 : 0 < n) (h2 : n ≤ 1000000) : XM1 30 [.int .i64 a, .int .i64 n] = some (.int .i64 (a % n)) := rw_eq h1 h2
theorem XM1_far {n N A k M B} (h : WfD n N A) (h' : WfD k M B) : XM1 33 [dV n N A, dV k M B] = some (apV (farM N A M B)) := by
  rw [← dV_of h.a, ← dV_of h'.a]
  exact tRel_eq (R := RFar) RFar_fn ⟨_, _, _, _, _, _, h, h', rfl, rfl⟩
theorem XM1_rfar {n N A k M B} (h : WfD n N A) (h' : WfD k M B) : XM1 26 [dV n N A, dV k M B] = some (apV (farM N A M B)) := by
  rw [← dV_of h.a, ← dV_of h'.a]
  exact tRel_eq (R := RFar) RFar_fn ⟨_, _, _, _, _, _, h, h', rfl, rfl⟩
theorem XM1_from {n N A} (h : WfD n N A) {s : Nat} (hs : s < n) : XM1 34 [dV n N A, .int .i64 s] = some (dV n (fromN N n s) (fromA A s)) := by
  rw [← dV_of h.a]
  exact tRel_eq (R := RFrm) RFrm_fn ⟨_, _, _, _, h, hs, rfl, rfl⟩
end Go.Proofs.YtpmjpogcaglphaaDoor.A
