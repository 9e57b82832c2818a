/- A, part 30: slices that a call makes, rows of them; pairs and steps in cells; a contract out of a walk. -/
import Derived.ChangeVars
import Derived.JoinedOf
import Derived.LaidLaws
import Derived.LaidHandle
import Derived.RowKit
import Derived.Test.YtbapebepmbikhaaDoorMLDEach1
import Derived.Test.YtbapebepmbikhaaDoorMLDEach2
import Derived.Test.YtbapebepmbikhaaDoorMLDEach3
import Derived.Test.YtbapebepmbikhaaDoorMLDEach4
import Derived.Test.YtbapebepmbikhaaDoorMLDEach5
set_option linter.unusedVariables false
set_option linter.unusedSimpArgs false
set_option linter.unnecessarySimpa false
namespace Go.Proofs.YtbapebepmbikhaaDoor.A
open Go

/-! ### cells of pairs, of steps -/
def cP (l : List (Int × Int)) : List AV := l.flatMap fun p => [.int .i64 p.1, .int .i64 p.2]
def cS (l : List (Int × Int × Int)) : List AV := l.flatMap fun p => [.int .i64 p.1, .int .i64 p.2.1, .int .i64 p.2.2]
@[go_sem] theorem cP_nil : cP [] = [] := rfl
@[go_sem] theorem cS_nil : cS [] = [] := rfl
theorem cP_app (x y) : cP (x ++ y) = cP x ++ cP y := by simp [cP]
theorem cS_app (x y) : cS (x ++ y) = cS x ++ cS y := by simp [cS]
theorem cP_snoc (l : List (Int × Int)) (f t : Int) : cP l ++ [.int .i64 f, .int .i64 t] = cP (l ++ [(f, t)]) := by simp [cP]
theorem cS_snoc (l : List (Int × Int × Int)) (f t s : Int) : cS l ++ [.int .i64 f, .int .i64 t, .int .i64 s] = cS (l ++ [(f, t, s)]) := by simp [cS]
@[go_sem] theorem cP_length (l) : (cP l).length = l.length * 2 := by
  induction l with
  | nil => rfl
  | cons p l ih => simp only [cP, List.flatMap_cons, List.length_append, List.length_cons, List.length_nil] at ih ⊢; omega
@[go_sem] theorem cS_length (l) : (cS l).length = l.length * 3 := by
  induction l with
  | nil => rfl
  | cons p l ih => simp only [cS, List.flatMap_cons, List.length_append, List.length_cons, List.length_nil] at ih ⊢; omega
@[go_sem] theorem cP_ok (l) : (cP l).all cellOk = true := by
  induction l with
  | nil => rfl
  | cons p l ih => simpa [cP, cellOk] using ih
@[go_sem] theorem cS_ok (l) : (cS l).all cellOk = true := by
  induction l with
  | nil => rfl
  | cons p l ih => simpa [cS, cellOk] using ih
@[go_sem] theorem view_cP (o d l) : (cP l).map (view o d) = cP l := by
  induction l with
  | nil => rfl
  | cons p l ih => simpa [cP, view_int] using ih
@[go_sem] theorem view_cS (o d l) : (cS l).map (view o d) = cS l := by
  induction l with
  | nil => rfl
  | cons p l ih => simpa [cS, view_int] using ih
@[go_sem] theorem tags_cP (o d l) : (cP l).flatMap (viewTags o d) = [] := by
  induction l with
  | nil => rfl
  | cons p l ih => simpa [cP, tags_int] using ih
@[go_sem] theorem tags_cS (o d l) : (cS l).flatMap (viewTags o d) = [] := by
  induction l with
  | nil => rfl
  | cons p l ih => simpa [cS, tags_int] using ih
theorem cP_at {l : List (Int × Int)} {i : Nat} (h : i < l.length) : (cP l).drop (i * 2) = .int .i64 (l.getD i (0, 0)).1 :: .int .i64 (l.getD i (0, 0)).2 :: cP (l.drop (i + 1)) := by
  induction l generalizing i with
  | nil => simp at h
  | cons p l ih =>
    cases i with
    | zero => rfl
    | succ i =>
      have : (i + 1) * 2 = i * 2 + 2 := by omega
      rw [this]
      have := ih (i := i) (by simpa using h)
      simpa [cP] using this
theorem cS_at {l : List (Int × Int × Int)} {i : Nat} (h : i < l.length) : (cS l).drop (i * 3) = .int .i64 (l.getD i (0, 0, 0)).1 :: .int .i64 (l.getD i (0, 0, 0)).2.1 :: .int .i64 (l.getD i (0, 0, 0)).2.2 :: cS (l.drop (i + 1)) := by
  induction l generalizing i with
  | nil => simp at h
  | cons p l ih =>
    cases i with
    | zero => rfl
    | succ i =>
      have : (i + 1) * 3 = i * 3 + 3 := by omega
      rw [this]
      have := ih (i := i) (by simpa using h)
      simpa [cS] using this
theorem cs_get {cs : List AV} {i s : Nat} (h : i < cs.length) : take1 false s (cs.drop i) = some (cs.getD i .nil) := by
  rw [take1_drop h]; simp [List.getD, h]
theorem splice_all {xs ys : List AV} (h : xs.length = ys.length) : splice xs 0 ys = ys := by rw [splice_zero, List.drop_eq_nil_of_le (by omega), List.append_nil]
theorem take_len {α : Type} {l : List α} {n : Nat} (h : l.length = n) : l.take n = l := by rw [← h]; exact List.take_length
theorem take_succ_getD {α : Type} {l : List α} {i : Nat} (h : i < l.length) (d : α) : l.take (i + 1) = l.take i ++ [l.getD i d] := by
  rw [List.take_add_one]; simp [List.getD, h]

@[go_sem] theorem cI_all (l) : (cI l).take l.length = cI l := take_len (by simp [cI])
@[go_sem] theorem cB_all (l) : (cB l).take l.length = cB l := take_len (by simp [cB])
@[go_sem] theorem cP_all (l) : (cP l).take (l.length * 2) = cP l := take_len (by simp [cP_length])
@[go_sem] theorem cS_all (l) : (cS l).take (l.length * 3) = cS l := take_len (by simp [cS_length])

/-! ### a slice that the call makes, which may be nil -/
/-- v holds cs, in a row of slot D. -/
def HS (e sz D : Nat) (o : Ob) (nx : Nat) (v : AV) (n : Nat) (cs : List AV) : Prop :=
  (v = .nil ∧ n = 0 ∧ cs = []) ∨ ∃ i g, v = .ref (i, D) g 0 n ∧ i < nx ∧ o (i, D) = some (.row ⟨e, sz, g, false, true, cs⟩) ∧ cs.length = n * sz
theorem HS.nil {e sz D o nx} : HS e sz D o nx .nil 0 [] := .inl ⟨rfl, rfl, rfl⟩
theorem HS.keep {e sz D o nx v n cs} (h : HS e sz D o nx v n cs) {o' : Ob} {nx' : Nat} (ho : ∀ i, i < nx → o' (i, D) = o (i, D)) (hn : nx ≤ nx') : HS e sz D o' nx' v n cs := by
  rcases h with h | ⟨i, g, h1, h2, h3, h4⟩
  · exact .inl h
  · exact .inr ⟨i, g, h1, by omega, by rw [ho i h2, h3], h4⟩
theorem HS.ok {e sz D o nx v n cs} (h : HS e sz D o nx v n cs) : cellOk v = true := by
  rcases h with ⟨rfl, _⟩ | ⟨i, g, rfl, _⟩ <;> rfl
theorem HS.cells {e sz D o nx v n cs} (h : HS e sz D o nx v n cs) : v.cells = [v] := by
  rcases h with ⟨rfl, _⟩ | ⟨i, g, rfl, _⟩ <;> rfl
theorem HS.len {e sz D o nx v n cs} (h : HS e sz D o nx v n cs) : cs.length = n * sz := by
  rcases h with ⟨_, rfl, rfl⟩ | ⟨i, g, _, _, _, h⟩
  · simp
  · exact h
/-- What it is handed on as. -/
theorem HS.view {e sz D o nx v n cs} (h : HS e sz D o nx v n cs) (d : Nat) : view o (d + 1) v = .sl n (cs.map (view o d)) := by
  rcases h with ⟨rfl, rfl, rfl⟩ | ⟨i, g, rfl, _, h3, h4⟩
  · rfl
  · rw [view_ref, h3, rowIf_some, viewR_some]
    simp only [Nat.zero_add, List.drop_zero]
    rw [if_pos (by omega), take_len h4]

theorem nin_slot {D : Nat} {l : List Tag} (h : ∀ t ∈ l, t.2 = D) {i j : Nat} (hj : j ≠ D) : nin (i, j) l = true := by
  unfold nin
  have : (i, j) ∉ l := fun hm => hj (h _ hm)
  simp [this]
theorem HS.tags {e sz D o nx v n cs} (h : HS e sz D o nx v n cs) (d : Nat) (hf : cs.flatMap (viewTags o d) = []) : ∀ t ∈ viewTags o (d + 1) v, t.2 = D := by
  rcases h with ⟨rfl, rfl, rfl⟩ | ⟨i, g, rfl, _, h3, h4⟩
  · intro t ht; cases ht
  · rw [tags_ref, h3, rowIf_some, tagsR_some, List.drop_zero, take_len h4, hf]
    intro t ht
    rw [List.mem_singleton.1 ht]
theorem HS.nin {e sz D o nx v n cs} (h : HS e sz D o nx v n cs) (d : Nat) (hf : cs.flatMap (viewTags o d) = []) {i j : Nat} (hj : j ≠ D) : A.nin (i, j) (viewTags o (d + 1) v) = true := nin_slot (h.tags d hf) hj

/-! ### rows of whole numbers, each of its own make -/
def NI (D : Nat) (o : Ob) (nx : Nat) (cs : List AV) (rows : List (List Int)) : Prop :=
  cs.length = rows.length ∧ (∀ j, j < rows.length → HS 3 1 D o nx (cs.getD j .nil) (rows.getD j []).length (cI (rows.getD j []))) ∧
    ∀ j j' i g n g' n', j < j' → cs.getD j .nil = .ref (i, D) g 0 n → cs.getD j' .nil ≠ .ref (i, D) g' 0 n'
theorem NI.keep {D o nx cs rows} (h : NI D o nx cs rows) {o' : Ob} {nx' : Nat} (ho : ∀ i, i < nx → o' (i, D) = o (i, D)) (hn : nx ≤ nx') : NI D o' nx' cs rows :=
  ⟨h.1, fun j hj => (h.2.1 j hj).keep ho hn, h.2.2⟩
theorem NI.start (D o nx) (n : Nat) : NI D o nx (List.replicate n .nil) (List.replicate n []) := by
  refine ⟨by simp, fun j hj => ?_, fun j j' i g m g' m' hj h => ?_⟩
  · have hj : j < n := by simpa using hj
    have e1 : (List.replicate n AV.nil).getD j .nil = .nil := by simp [List.getD, List.getElem?_replicate, hj]
    have e2 : (List.replicate n ([] : List Int)).getD j [] = [] := by simp [List.getD, List.getElem?_replicate, hj]
    rw [e1, e2]
    exact .inl ⟨rfl, rfl, rfl⟩
  · by_cases hj : j < n
    · have e1 : (List.replicate n AV.nil).getD j .nil = .nil := by simp [List.getD, List.getElem?_replicate, hj]
      rw [e1] at h; cases h
    · have e1 : (List.replicate n AV.nil).getD j .nil = .nil := by simp [List.getD, List.getElem?_replicate, hj]
      rw [e1] at h; cases h
theorem getD_set {α : Type} (l : List α) (i j : Nat) (x d : α) (hi : i < l.length) : (l.set i x).getD j d = if i = j then x else l.getD j d := by
  simp only [List.getD, List.getElem?_set]
  by_cases h : i = j
  · subst h; simp [hi]
  · simp [h]
/-- One of them is turned. -/
theorem NI.set {D o nx cs rows} (h : NI D o nx cs rows) {j : Nat} (hj : j < rows.length) {o' : Ob} {nx' : Nat} {i : Nat} {g : Tag} {l : List Int} {n : Nat} (hl : n = l.length) (hn : nx ≤ nx') (hi : i < nx')
    (hnew : cs.getD j .nil = .nil ∧ nx ≤ i ∨ ∃ g0 n0, cs.getD j .nil = .ref (i, D) g0 0 n0) (ho : ∀ i', i' < nx → i' ≠ i → o' (i', D) = o (i', D)) (hrow : o' (i, D) = some (.row ⟨3, 1, g, false, true, cI l⟩)) :
    NI D o' nx' (cs.set j (.ref (i, D) g 0 n)) (rows.set j l) := by
  subst hl
  obtain ⟨h1, h2, h3⟩ := h
  have hjc : j < cs.length := by omega
  have apart : ∀ j', j' ≠ j → ∀ g' n', cs.getD j' .nil = .ref (i, D) g' 0 n' → j' < rows.length → False := fun j' hne g' n' he hlt => by
    rcases hnew with ⟨_, hi'⟩ | ⟨g0, n0, he0⟩
    · rcases h2 j' hlt with ⟨e, _⟩ | ⟨i1, g1, e, hi1, _⟩
      · rw [e] at he; cases he
      · rw [e] at he; injection he with he; injection he with he; omega
    · rcases Nat.lt_or_gt_of_ne hne with hlt' | hlt'
      · exact h3 j' j i g' n' g0 n0 hlt' he he0
      · exact h3 j j' i g0 n0 g' n' hlt' he0 he
  have out : ∀ j', ¬ j' < rows.length → cs.getD j' .nil = .nil := fun j' hj' => by
    simp [List.getD, List.getElem?_eq_none (show cs.length ≤ j' by omega)]
  refine ⟨by simpa using h1, fun j' hj' => ?_, fun j1 j2 i1 g1 n1 g2 n2 hlt e1 e2 => ?_⟩
  · have hj'' : j' < rows.length := by simpa using hj'
    rw [getD_set _ _ _ _ _ hjc, getD_set _ _ _ _ _ hj]
    by_cases e : j = j'
    · rw [if_pos e, if_pos e]
      exact .inr ⟨i, g, rfl, hi, hrow, by simp [cI]⟩
    · rw [if_neg e, if_neg e]
      rcases h2 j' hj'' with hh | ⟨i1, g1, e1, hi1, e3, e4⟩
      · exact .inl hh
      · refine .inr ⟨i1, g1, e1, by omega, ?_, e4⟩
        rw [ho i1 hi1 (fun hc => by subst hc; exact apart j' (fun hc => e hc.symm) _ _ e1 hj''), e3]
  · rw [getD_set _ _ _ _ _ hjc] at e1 e2
    have bound : ∀ j', (∃ i g n, cs.getD j' .nil = .ref i g 0 n) → j' < rows.length := fun j' ⟨i, g, n, he⟩ => by
      by_cases hb : j' < rows.length
      · exact hb
      · rw [out j' hb] at he; cases he
    by_cases c1 : j = j1
    · rw [if_pos c1] at e1
      rw [if_neg (by omega)] at e2
      injection e1 with e1; injection e1 with e1
      subst e1
      exact apart j2 (by omega) _ _ e2 (bound j2 ⟨_, _, _, e2⟩)
    · rw [if_neg c1] at e1
      by_cases c2 : j = j2
      · rw [if_pos c2] at e2
        injection e2 with e2; injection e2 with e2
        subst e2
        exact apart j1 (by omega) _ _ e1 (bound j1 ⟨_, _, _, e1⟩)
      · rw [if_neg c2] at e2
        exact h3 j1 j2 i1 g1 n1 g2 n2 hlt e1 e2
/-- What they are handed on as. -/
theorem NI.view {D o nx cs rows} (h : NI D o nx cs rows) (d : Nat) : cs.map (A.view o (d + 1)) = rows.map slI := by
  refine List.ext_getElem (by simpa using h.1) fun j h1 h2 => ?_
  have hj : j < rows.length := by simpa using h2
  have hjc : j < cs.length := by simpa using h1
  have := h.2.1 j hj
  have e1 : cs.getD j .nil = cs[j] := by simp [List.getD, hjc]
  have e2 : rows.getD j [] = rows[j] := by simp [List.getD, hj]
  rw [e1, e2] at this
  simp only [List.getElem_map]
  rw [this.view, view_cI]

/-! ### contracts as relations -/
def Fun1 (R : List AV → AV → Prop) : Prop := ∀ args r r', R args r → R args r' → r = r'
open Classical in
noncomputable def tRel (R : List AV → AV → Prop) : List AV → Option AV := fun args => if h : ∃ r, R args r then some h.choose else none
theorem tRel_eq {R : List AV → AV → Prop} (hf : Fun1 R) {args : List AV} {r : AV} (h : R args r) : tRel R args = some r := by
  unfold tRel
  rw [dif_pos ⟨r, h⟩]
  exact congrArg some (hf _ _ _ (Exists.choose_spec (p := R args) ⟨r, h⟩) h)
theorem tRel_ok {P : Program} {f : FuncId} {R : List AV → AV → Prop} (hk : ∀ args r, R args r → Ok P f args r) : ∀ args r, tRel R args = some r → Ok P f args r := fun args r h => by
  unfold tRel at h
  split at h
  · rename_i hh
    injection h with h
    subst h
    exact hk _ _ hh.choose_spec
  · cases h
theorem cI_inj {x y : List Int} (h : cI x = cI y) : x = y := by
  unfold cI at h
  exact List.map_inj_right (fun a b h => by injection h) |>.1 h
theorem cB_inj {x y : List Bool} (h : cB x = cB y) : x = y := by
  unfold cB at h
  exact List.map_inj_right (fun a b h => by injection h) |>.1 h
theorem slI_inj {x y : List Int} (h : slI x = slI y) : x = y := by
  unfold slI at h; injection h with _ h; exact cI_inj h
theorem slIs_inj {x y : List (List Int)} (h : x.map slI = y.map slI) : x = y := List.map_inj_right (fun a b h => slI_inj h) |>.1 h
theorem cP_inj : ∀ {x y : List (Int × Int)}, cP x = cP y → x = y
  | [], [], _ => rfl
  | [], _ :: _, h => by cases h
  | _ :: _, [], h => by cases h
  | (a, b) :: x, (c, d) :: y, h => by
    simp only [cP, List.flatMap_cons, List.cons_append, List.nil_append, List.cons.injEq, AV.int.injEq, true_and] at h
    obtain ⟨rfl, rfl, h⟩ := h
    rw [cP_inj h]
theorem cS_inj : ∀ {x y : List (Int × Int × Int)}, cS x = cS y → x = y
  | [], [], _ => rfl
  | [], _ :: _, h => by cases h
  | _ :: _, [], h => by cases h
  | (a, b, e) :: x, (c, d, f) :: y, h => by
    simp only [cS, List.flatMap_cons, List.cons_append, List.nil_append, List.cons.injEq, AV.int.injEq, true_and] at h
    obtain ⟨rfl, rfl, rfl, h⟩ := h
    rw [cS_inj h]

/-! ### a contract out of a walk -/
theorem runP_of_WP {E : Env} {cr : CallR} {k : Nat} {nz : Nat → Option (List (Nat × Nat))} {fn : Func} {c : Code} {args : List AV} {r : AV} (hb : fn.body = some c)
    (h : WP E cr k nz c (begin_ args) (fun _ => none) 0 (fun u a o nx => (u = .normal ∨ u = .ret) ∧ wO (resultsL E.P a ⟨o, nx⟩ fn.results.toList) (fun vs => A.view o vDepth (tup1 vs) = r))) :
    ∃ v H', runP E cr k nz fn args noHeap = some (v, H') ∧ A.view H'.o vDepth v = r := by
  unfold WP at h
  unfold runP noHeap
  rw [hb]
  dsimp only
  cases he : evalP E (fun _ _ => none) cr k nz none c (begin_ args) { o := fun _ => none, nx := 0 } with
  | none => rw [he] at h; exact h.elim
  | some p =>
    obtain ⟨u, a, H⟩ := p
    rw [he] at h
    obtain ⟨hu, h⟩ := h
    obtain ⟨vs, h1, h2⟩ : ∃ vs, resultsL E.P a H fn.results.toList = some vs ∧ A.view H.o vDepth (tup1 vs) = r := by
      unfold wO at h
      split at h
      · rename_i vs e; exact ⟨vs, e, h⟩
      · exact h.elim
    rcases hu with rfl | rfl
    · dsimp only
      refine ⟨tup1 vs, H, ?_, h2⟩
      show (resultsL E.P a H fn.results.toList).map _ = _
      rw [show resultsL E.P a H fn.results.toList = some vs from h1]; rfl
    · dsimp only
      refine ⟨tup1 vs, H, ?_, h2⟩
      show (resultsL E.P a H fn.results.toList).map _ = _
      rw [show resultsL E.P a H fn.results.toList = some vs from h1]; rfl
theorem ok_of_WP {E : Env} {cr : CallR} (hX : CPSound E.P E.ext) (hR : CRSound E.P cr ∧ Up cr) (hm : E.P.follows .mixedOrders = true) {k : Nat} {nz : Nat → Option (List (Nat × Nat))} {fn : Func} {f : FuncId} {args : List AV} {r : AV} (hf : E.P.funcs[f]? = some fn)
    (hl : lookedAt E nz args.length fn = true) (hb : fn.body = some (fn.body.getD .skip))
    (h : WP E cr k nz (fn.body.getD .skip) (begin_ args) (fun _ => none) 0 (fun u a o nx => (u = .normal ∨ u = .ret) ∧ wO (resultsL E.P a ⟨o, nx⟩ fn.results.toList) (fun vs => A.view o vDepth (tup1 vs) = r))) : Ok E.P f args r := by
  obtain ⟨v, H', h1, h2⟩ := runP_of_WP hb h
  rw [← h2]
  exact ok_run hX hR.1 hR.2 hm hf hl h1
def noR : CallR := fun _ _ _ => none
theorem noR_ok (P : Program) : CRSound P noR ∧ Up noR := ⟨fun g args H v H' h => (by cases h), fun g args H v H' h => (by cases h)⟩
@[go_sem] theorem resultsL_nil (P a H) : resultsL P a H [] = some [] := rfl
@[go_sem] theorem resultsL_cons (P a H r rs) : resultsL P a H (r :: rs) = consO (result1 P a H r) (resultsL P a H rs) := rfl
@[go_sem] theorem result1_tmp (P a H t) : result1 P a H (.tmp t) = some (a t) := rfl
@[go_sem] theorem result1_cell (P a H ad t) : result1 P a H (.cell ad t) = aLoad P t (a ad) H := rfl
@[go_sem] theorem tup1_one (v) : tup1 [v] = v := rfl
@[go_sem] theorem tup1_two (v w) : tup1 [v, w] = .tup [v, w] := rfl
@[go_sem] theorem tup1_three (v w x) : tup1 [v, w, x] = .tup [v, w, x] := rfl
/-- A piece of code, by its place. -/
def pathC : List Nat → Code → Code
  | [], c => c
  | 0 :: p, .seq a _ => pathC p a
  | 1 :: p, .seq _ b => pathC p b
  | 0 :: p, .block _ c => pathC p c
  | 0 :: p, .loop c => pathC p c
  | 0 :: p, .scope c => pathC p c
  | 0 :: p, .cond _ a _ => pathC p a
  | 1 :: p, .cond _ _ b => pathC p b
  | _, c => c
end Go.Proofs.YtbapebepmbikhaaDoor.A
/- within: the remainder. -/
namespace Go.Proofs.YtbapebepmbikhaaDoor.A
open Go
set_option maxRecDepth 20000
def RW (args : List AV) (r : AV) : Prop := ∃ a n : Int, 0 < n ∧ n ≤ 1000000 ∧ args = [.int .i64 a, .int .i64 n] ∧ r = .int .i64 (a % n)
theorem RW_fn : Fun1 RW := by
  rintro args r r' ⟨a, n, _, _, rfl, rfl⟩ ⟨a', n', _, _, h, rfl⟩
  simp only [List.cons.injEq, AV.int.injEq, true_and, and_true] at h
  rw [h.1, h.2]
theorem rw_eq {a n : Int} (h1 : 0 < n) (h2 : n ≤ 1000000) : tRel RW [.int .i64 a, .int .i64 n] = some (.int .i64 (a % n)) := tRel_eq RW_fn ⟨a, n, h1, h2, rfl, rfl⟩
theorem mod_of (a n : Int) (h : 0 < n) : a % n = if a.tmod n < 0 then a.tmod n + n else a.tmod n := by
  have hn : ¬ n = 0 := by omega
  have e1 := Int.emod_lt_of_pos a h
  have e2 := Int.emod_nonneg a hn
  rw [Int.tmod_eq_emod]
  have : (n.natAbs : Int) = n := by omega
  split
  · split <;> omega
  · rename_i hc
    simp only [not_or] at hc
    have h0 : a % n ≠ 0 := fun e => hc.2 (Int.dvd_of_emod_eq_zero e)
    split <;> omega
theorem tmod_in (a n : Int) (h : 0 < n) : -n < a.tmod n ∧ a.tmod n < n := by
  have hn : ¬ n = 0 := by omega
  rw [Int.tmod_eq_emod]
  have := Int.emod_lt_of_pos a h
  have := Int.emod_nonneg a hn
  constructor <;> split <;> omega
theorem lookW0 (X) : lookedAt (EX md0 X) (fun _ => none) 2 Tryd.f34 = true := by kernel_rfl
theorem within0_ok (args r) (h : RW args r) : Ok Tryd.prog 34 args r := by
  obtain ⟨a, n, h1, h2, rfl, rfl⟩ := h
  refine ok_of_WP (E := EX md0 (fun _ _ => none)) (cr := noR) (tab_nil _) (noR_ok _) mixed (k := 0) Tryd.func34 (lookW0 _) rfl ?_
  rw [mod_of a n h1]
  obtain ⟨h3, h4⟩ := tmod_in a n h1
  simp only [Tryd.f34, Option.getD_some]
  by_cases hc : a.tmod n < 0
  · rw [if_pos hc]
    simp (disch := omega) only [go_sem, ↓IntWalk.iteOmega, IntWalk.toNatUp, Nat.reduceEqDiff, Nat.reduceAdd, Nat.reduceMul, Nat.reduceSub, Nat.reduceLT, Nat.reduceLeDiff, Int.reduceToNat, Int.reduceLT, Int.reduceLE, Int.reduceEq, Int.reduceAdd, Int.reduceSub, Int.reduceMul, Int.toNat_natCast, reduceCtorEq, decide_true, decide_false, IntWalk.i64_in, IntWalk.u64_in, IntWalk.u8_in, hc]
  · rw [if_neg hc]
    simp (disch := omega) only [go_sem, ↓IntWalk.iteOmega, IntWalk.toNatUp, Nat.reduceEqDiff, Nat.reduceAdd, Nat.reduceMul, Nat.reduceSub, Nat.reduceLT, Nat.reduceLeDiff, Int.reduceToNat, Int.reduceLT, Int.reduceLE, Int.reduceEq, Int.reduceAdd, Int.reduceSub, Int.reduceMul, Int.toNat_natCast, reduceCtorEq, decide_true, decide_false, IntWalk.i64_in, IntWalk.u64_in, IntWalk.u8_in, hc]
theorem lookW1 (X) : lookedAt (EX md0 X) (fun _ => none) 2 Tryd.f33 = true := by kernel_rfl
theorem within1_ok (args r) (h : RW args r) : Ok Tryd.prog 33 args r := by
  obtain ⟨a, n, h1, h2, rfl, rfl⟩ := h
  refine ok_of_WP (E := EX md0 (fun _ _ => none)) (cr := noR) (tab_nil _) (noR_ok _) mixed (k := 0) Tryd.func33 (lookW1 _) rfl ?_
  rw [mod_of a n h1]
  obtain ⟨h3, h4⟩ := tmod_in a n h1
  simp only [Tryd.f33, Option.getD_some]
  by_cases hc : a.tmod n < 0
  · rw [if_pos hc]
    simp (disch := omega) only [go_sem, ↓IntWalk.iteOmega, IntWalk.toNatUp, Nat.reduceEqDiff, Nat.reduceAdd, Nat.reduceMul, Nat.reduceSub, Nat.reduceLT, Nat.reduceLeDiff, Int.reduceToNat, Int.reduceLT, Int.reduceLE, Int.reduceEq, Int.reduceAdd, Int.reduceSub, Int.reduceMul, Int.toNat_natCast, reduceCtorEq, decide_true, decide_false, IntWalk.i64_in, IntWalk.u64_in, IntWalk.u8_in, hc]
  · rw [if_neg hc]
    simp (disch := omega) only [go_sem, ↓IntWalk.iteOmega, IntWalk.toNatUp, Nat.reduceEqDiff, Nat.reduceAdd, Nat.reduceMul, Nat.reduceSub, Nat.reduceLT, Nat.reduceLeDiff, Int.reduceToNat, Int.reduceLT, Int.reduceLE, Int.reduceEq, Int.reduceAdd, Int.reduceSub, Int.reduceMul, Int.toNat_natCast, reduceCtorEq, decide_true, decide_false, IntWalk.i64_in, IntWalk.u64_in, IntWalk.u8_in, hc]
theorem lookW2 (X) : lookedAt (EX md0 X) (fun _ => none) 2 Tryd.f52 = true := by kernel_rfl
theorem within2_ok (args r) (h : RW args r) : Ok Tryd.prog 52 args r := by
  obtain ⟨a, n, h1, h2, rfl, rfl⟩ := h
  refine ok_of_WP (E := EX md0 (fun _ _ => none)) (cr := noR) (tab_nil _) (noR_ok _) mixed (k := 0) Tryd.func52 (lookW2 _) rfl ?_
  rw [mod_of a n h1]
  obtain ⟨h3, h4⟩ := tmod_in a n h1
  simp only [Tryd.f52, Option.getD_some]
  by_cases hc : a.tmod n < 0
  · rw [if_pos hc]
    simp (disch := omega) only [go_sem, ↓IntWalk.iteOmega, IntWalk.toNatUp, Nat.reduceEqDiff, Nat.reduceAdd, Nat.reduceMul, Nat.reduceSub, Nat.reduceLT, Nat.reduceLeDiff, Int.reduceToNat, Int.reduceLT, Int.reduceLE, Int.reduceEq, Int.reduceAdd, Int.reduceSub, Int.reduceMul, Int.toNat_natCast, reduceCtorEq, decide_true, decide_false, IntWalk.i64_in, IntWalk.u64_in, IntWalk.u8_in, hc]
  · rw [if_neg hc]
    simp (disch := omega) only [go_sem, ↓IntWalk.iteOmega, IntWalk.toNatUp, Nat.reduceEqDiff, Nat.reduceAdd, Nat.reduceMul, Nat.reduceSub, Nat.reduceLT, Nat.reduceLeDiff, Int.reduceToNat, Int.reduceLT, Int.reduceLE, Int.reduceEq, Int.reduceAdd, Int.reduceSub, Int.reduceMul, Int.toNat_natCast, reduceCtorEq, decide_true, decide_false, IntWalk.i64_in, IntWalk.u64_in, IntWalk.u8_in, hc]
theorem lookW3 (X) : lookedAt (EX md0 X) (fun _ => none) 2 Tryd.f17 = true := by kernel_rfl
theorem within3_ok (args r) (h : RW args r) : Ok Tryd.prog 17 args r := by
  obtain ⟨a, n, h1, h2, rfl, rfl⟩ := h
  refine ok_of_WP (E := EX md0 (fun _ _ => none)) (cr := noR) (tab_nil _) (noR_ok _) mixed (k := 0) Tryd.func17 (lookW3 _) rfl ?_
  rw [mod_of a n h1]
  obtain ⟨h3, h4⟩ := tmod_in a n h1
  simp only [Tryd.f17, Option.getD_some]
  by_cases hc : a.tmod n < 0
  · rw [if_pos hc]
    simp (disch := omega) only [go_sem, ↓IntWalk.iteOmega, IntWalk.toNatUp, Nat.reduceEqDiff, Nat.reduceAdd, Nat.reduceMul, Nat.reduceSub, Nat.reduceLT, Nat.reduceLeDiff, Int.reduceToNat, Int.reduceLT, Int.reduceLE, Int.reduceEq, Int.reduceAdd, Int.reduceSub, Int.reduceMul, Int.toNat_natCast, reduceCtorEq, decide_true, decide_false, IntWalk.i64_in, IntWalk.u64_in, IntWalk.u8_in, hc]
  · rw [if_neg hc]
    simp (disch := omega) only [go_sem, ↓IntWalk.iteOmega, IntWalk.toNatUp, Nat.reduceEqDiff, Nat.reduceAdd, Nat.reduceMul, Nat.reduceSub, Nat.reduceLT, Nat.reduceLeDiff, Int.reduceToNat, Int.reduceLT, Int.reduceLE, Int.reduceEq, Int.reduceAdd, Int.reduceSub, Int.reduceMul, Int.toNat_natCast, reduceCtorEq, decide_true, decide_false, IntWalk.i64_in, IntWalk.u64_in, IntWalk.u8_in, hc]
end Go.Proofs.YtbapebepmbikhaaDoor.A
/- closing: the rows of free steps. -/
namespace Go.Proofs.YtbapebepmbikhaaDoor.A
open Go
set_option maxRecDepth 20000
abbrev nfaV (N S F : Int) (ss : List (Int × Int × Int)) (fs : List (Int × Int)) : AV := .agg [.int .i64 N, .int .i64 S, .int .i64 F, .sl ss.length (cS ss), .sl fs.length (cP fs)]
/-- Where free steps lead, state by state. -/
def rowAdd (rows : List (List Int)) (f : Int × Int) : List (List Int) := rows.set f.1.toNat (rows.getD f.1.toNat [] ++ [f.2])
def rowsOf (N : Nat) (fs : List (Int × Int)) : List (List Int) := fs.foldl rowAdd (List.replicate N [])
theorem rowsOf_snoc (N fs f) : rowsOf N (fs ++ [f]) = rowAdd (rowsOf N fs) f := by simp [rowsOf]
theorem rowsOf_length (N fs) : (rowsOf N fs).length = N := by
  have : ∀ (l : List (Int × Int)) (rows : List (List Int)), (l.foldl rowAdd rows).length = rows.length := fun l => by
    induction l with
    | nil => intro; rfl
    | cons f l ih => intro rows; rw [List.foldl_cons, ih]; simp [rowAdd]
  rw [rowsOf, this]; simp
theorem rowsOf_le (N fs j) : ((rowsOf N fs).getD j []).length ≤ fs.length := by
  have : ∀ (l : List (Int × Int)) (rows : List (List Int)) (n : Nat), (∀ j, (rows.getD j []).length ≤ n) → ∀ j, ((l.foldl rowAdd rows).getD j []).length ≤ n + l.length := fun l => by
    induction l with
    | nil => intro rows n h j; simpa using h j
    | cons f l ih =>
      intro rows n h j
      have := ih (rowAdd rows f) (n + 1) (fun j => by
        unfold rowAdd
        by_cases hf : f.1.toNat < rows.length
        · rw [getD_set _ _ _ _ _ hf]
          split
          · have := h f.1.toNat; rw [List.length_append, List.length_singleton]; omega
          · have := h j; omega
        · rw [List.set_eq_of_length_le (by omega)]; have := h j; omega) j
      simp only [List.foldl_cons, List.length_cons]; omega
  have := this fs (List.replicate N []) 0 (fun j => by simp [List.getD, List.getElem?_replicate]; split <;> simp) j
  simpa [rowsOf] using this
def nz38 : Nat → Option (List (Nat × Nat))
  | 1 => some [(1, 4), (1, 6), (3, 6), (4, 6)]
  | 5 => some [(1, 12), (3, 12), (5, 12), (7, 12), (9, 12), (1, 13), (3, 13)]
  | _ => none
theorem closing_wp (md X cr k) (N : Nat) (S F : Int) (hN : N ≤ 1000) (ss fs) (hfs : fs.length ≤ 100000) (hk : fs.length < k) (hin : ∀ p ∈ fs, 0 ≤ p.1 ∧ p.1 < (N : Int)) :
    WP (EX md X) cr k nz38 (Tryd.f48.body.getD .skip) (begin_ [nfaV N S F ss fs]) (fun _ => none) 0 (fun u a o nx => u = .ret ∧ ∃ cs, NI 32 o nx cs (rowsOf N fs) ∧ a 2 = .ptr (0, 2) (0, 2) 0 ∧
      o (0, 2) = some (.row ⟨99, 1, (0, 2), false, true, [.int .i64 N, .ref (1, 10) (1, 10) 0 N]⟩) ∧ o (1, 10) = some (.row ⟨26, 1, (1, 10), false, true, cs⟩)) := by
  simp only [Tryd.f48, Option.getD_some]
  simp only [go_sem, ↓IntWalk.iteOmega, IntWalk.toNatUp, Nat.reduceEqDiff, Nat.reduceAdd, Nat.reduceMul, Nat.reduceSub, Nat.reduceLT, Nat.reduceLeDiff, Int.reduceToNat, Int.reduceLT, Int.reduceLE, Int.reduceEq, Int.reduceAdd, Int.reduceSub, Int.reduceMul, Int.toNat_natCast, reduceCtorEq, decide_true, decide_false, IntWalk.i64_in, IntWalk.u64_in, IntWalk.u8_in, nz38, begin_]
  refine WP_loop (fun m a o nx => ∃ i cs, i ≤ fs.length ∧ m = fs.length - i ∧ NI 32 o nx cs (rowsOf N (fs.take i)) ∧ 2 ≤ nx ∧ a 2 = .ptr (0, 2) (0, 2) 0 ∧ a 3 = .ptr (1, 3) (1, 3) 0 ∧ a 13 = .sl fs.length (cP fs) ∧ a 14 = .int .i64 fs.length ∧ a 15 = .int .i64 i ∧
      (∃ x, o (0, 2) = some (.row ⟨99, 1, (0, 2), false, true, x⟩) ∧ x.length = 2) ∧ o (1, 3) = some (.row ⟨99, 1, (1, 3), false, true, [.int .i64 N, .ref (1, 10) (1, 10) 0 N]⟩) ∧ o (1, 10) = some (.row ⟨26, 1, (1, 10), false, true, cs⟩)) fs.length hk ⟨0, List.replicate N .nil, ?_⟩ ?_
  · simp only [go_sem, ↓IntWalk.iteOmega, IntWalk.toNatUp, Nat.reduceEqDiff, Nat.reduceAdd, Nat.reduceMul, Nat.reduceSub, Nat.reduceLT, Nat.reduceLeDiff, Int.reduceToNat, Int.reduceLT, Int.reduceLE, Int.reduceEq, Int.reduceAdd, Int.reduceSub, Int.reduceMul, Int.toNat_natCast, reduceCtorEq, decide_true, decide_false, IntWalk.i64_in, IntWalk.u64_in, IntWalk.u8_in, rep_one, List.take_zero, Nat.sub_zero]
    exact ⟨by omega, NI.start _ _ _ N, ⟨_, rfl, rfl⟩⟩
  · rintro m a o nx ⟨i, cs, hi, rfl, hNI, hnx, h2, h3, h13, h14, h15, ⟨x, hx, hxl⟩, ho3, ho10⟩
    by_cases hlt : i < fs.length
    · obtain ⟨hf0, hfN⟩ := hin (fs.getD i (0, 0)) (by simp [List.getD, hlt])
      have hat := cP_at hlt
      have htake := take_succ_getD hlt (0, 0)
      generalize fs.getD i (0, 0) = f at hf0 hfN hat htake
      obtain ⟨f, t⟩ := f
      simp only at hf0 hfN hat htake
      obtain ⟨j, rfl⟩ := Int.eq_ofNat_of_zero_le hf0
      have hrl := rowsOf_length N (fs.take i)
      have hcl : cs.length = N := by rw [hNI.1, hrl]
      have hjN : j < cs.length := by omega
      have hH := hNI.2.1 j (by omega)
      have hget := cs_get (s := 1) hjN
      generalize hv : cs.getD j .nil = v at hH hget
      have hspl : ∀ v, splice cs j [v] = cs.set j v := fun v => splice_eq cs j v hjN
      have hnext : rowsOf N (fs.take (i + 1)) = (rowsOf N (fs.take i)).set j ((rowsOf N (fs.take i)).getD j [] ++ [t]) := by rw [htake, rowsOf_snoc]; rfl
      have hjr : j < (rowsOf N (fs.take i)).length := by omega
      rcases hH with ⟨rfl, e2, e3⟩ | ⟨i1, g, rfl, hi1, hrow, hlen⟩
      · simp (disch := omega) only [go_sem, ↓IntWalk.iteOmega, IntWalk.toNatUp, Nat.reduceEqDiff, Nat.reduceAdd, Nat.reduceMul, Nat.reduceSub, Nat.reduceLT, Nat.reduceLeDiff, Int.reduceToNat, Int.reduceLT, Int.reduceLE, Int.reduceEq, Int.reduceAdd, Int.reduceSub, Int.reduceMul, Int.toNat_natCast, reduceCtorEq, decide_true, decide_false, IntWalk.i64_in, IntWalk.u64_in, IntWalk.u8_in, nz38, h2, h3, h13, h14, h15, ho3, ho10, hat, hget, hspl, IntWalk.i64_in]
        have e4 : (rowsOf N (fs.take i)).getD j [] = [] := List.length_eq_zero_iff.1 e2
        refine ⟨_, ?_, i + 1, _, by omega, rfl, ?_, by simp, ⟨x, hx, hxl⟩, rfl⟩
        · omega
        · rw [hnext, e4]
          exact NI.set (l := [t]) hNI hjr rfl (by omega) (by omega) (.inl ⟨hv, by omega⟩) (fun i' _ h => by simp [upd_app, h]) (by simp [upd_app, cI])
      · have hle := rowsOf_le N (fs.take i) j
        have hlt' : (fs.take i).length ≤ fs.length := by simp; omega
        generalize (rowsOf N (fs.take i)).getD j [] = r at *
        simp (disch := omega) only [go_sem, ↓IntWalk.iteOmega, IntWalk.toNatUp, Nat.reduceEqDiff, Nat.reduceAdd, Nat.reduceMul, Nat.reduceSub, Nat.reduceLT, Nat.reduceLeDiff, Int.reduceToNat, Int.reduceLT, Int.reduceLE, Int.reduceEq, Int.reduceAdd, Int.reduceSub, Int.reduceMul, Int.toNat_natCast, reduceCtorEq, decide_true, decide_false, IntWalk.i64_in, IntWalk.u64_in, IntWalk.u8_in, nz38, h2, h3, h13, h14, h15, ho3, ho10, hat, hget, hrow, hspl, IntWalk.i64_in]
        refine ⟨_, ?_, i + 1, _, by omega, rfl, ?_, by simp, ⟨x, hx, hxl⟩, rfl⟩
        · omega
        · rw [hnext]
          exact NI.set (l := r ++ [t]) hNI hjr (by simp) (by omega) (by omega) (.inr ⟨_, _, hv⟩) (fun i' _ h => by simp [upd_app, h]) (by simp [upd_app, cI])
    · have e : i = fs.length := by omega
      subst e
      rw [List.take_length] at hNI
      match x, hxl with
      | [x1, x2], _ =>
        simp only [go_sem, ↓IntWalk.iteOmega, IntWalk.toNatUp, Nat.reduceEqDiff, Nat.reduceAdd, Nat.reduceMul, Nat.reduceSub, Nat.reduceLT, Nat.reduceLeDiff, Int.reduceToNat, Int.reduceLT, Int.reduceLE, Int.reduceEq, Int.reduceAdd, Int.reduceSub, Int.reduceMul, Int.toNat_natCast, reduceCtorEq, decide_true, decide_false, IntWalk.i64_in, IntWalk.u64_in, IntWalk.u8_in, nz38, h2, h3, h13, h14, h15, ho3, ho10, hx]
        exact ⟨cs, hNI.keep (fun _ _ => by simp [upd_app]) (by omega), rfl⟩
abbrev closerV (N : Nat) (rows : List (List Int)) : AV := .agg [.int .i64 N, .sl N (rows.map slI)]
theorem look38 (X) : lookedAt (EX md0 X) nz38 1 Tryd.f48 = true := by kernel_rfl
theorem closing_ok (N : Nat) (S F : Int) (hN : N ≤ 1000) (ss fs) (hfs : fs.length ≤ 100000) (hin : ∀ p ∈ fs, 0 ≤ p.1 ∧ p.1 < (N : Int)) : Ok Tryd.prog 48 [nfaV N S F ss fs] (closerV N (rowsOf N fs)) := by
  refine ok_of_WP (E := EX md0 (fun _ _ => none)) (cr := noR) (tab_nil _) (noR_ok _) mixed (k := fs.length + 1) Tryd.func48 (look38 _) rfl (WP_mono (closing_wp _ _ _ _ N S F hN ss fs hfs (by omega) hin) ?_)
  rintro u a o nx ⟨rfl, cs, hNI, h2, ho2, ho10⟩
  have hv := hNI.view 9
  have hl : cs.length = N := by rw [hNI.1, rowsOf_length]
  refine ⟨.inr rfl, ?_⟩
  simp only [Tryd.f48, go_sem, ↓IntWalk.iteOmega, IntWalk.toNatUp, Nat.reduceEqDiff, Nat.reduceAdd, Nat.reduceMul, Nat.reduceSub, Nat.reduceLT, Nat.reduceLeDiff, Int.reduceToNat, Int.reduceLT, Int.reduceLE, Int.reduceEq, Int.reduceAdd, Int.reduceSub, Int.reduceMul, Int.toNat_natCast, reduceCtorEq, decide_true, decide_false, IntWalk.i64_in, IntWalk.u64_in, IntWalk.u8_in, h2, ho2, ho10, hl, hv, take_len hl]
end Go.Proofs.YtbapebepmbikhaaDoor.A
/- close: the states to which free steps lead. -/
namespace Go.Proofs.YtbapebepmbikhaaDoor.A
open Go
set_option maxRecDepth 20000
/-- Reached from states by free steps. -/
inductive Rch (N : Nat) (rows : List (List Int)) (l : List Int) : Nat → Prop
  | base (s : Nat) (h : (s : Int) ∈ l) (hs : s < N) : Rch N rows l s
  | step (s t : Nat) (h : Rch N rows l s) (hm : (t : Int) ∈ rows.getD s []) (ht : t < N) : Rch N rows l t
theorem Rch.lt {N rows l s} (h : Rch N rows l s) : s < N := by cases h <;> assumption
open Classical in
noncomputable def closeB (N : Nat) (rows : List (List Int)) (l : List Int) : List Bool := (List.range N).map fun s => decide (Rch N rows l s)
/-- Where it is true, rising. -/
def idxs (b : List Bool) : List Int := ((List.range b.length).map fun s => if b.getD s false then [(s : Int)] else []).flatten
theorem closeB_length (N rows l) : (closeB N rows l).length = N := by simp [closeB]
theorem closeB_get (N rows l s) : (closeB N rows l).getD s false = true ↔ Rch N rows l s := by
  classical
  simp only [closeB, List.getD, List.getElem?_map, List.getElem?_range']
  by_cases h : s < N
  · simp [h]
  · simp only [List.getElem?_eq_none (show (List.range N).length ≤ s by simp; omega)]
    simp
    exact fun hc => h hc.lt
theorem closeB_unique {N rows l} {b : List Bool} (hl : b.length = N) (h : ∀ s, b.getD s false = true ↔ Rch N rows l s) : b = closeB N rows l := by
  refine List.ext_getElem (by rw [hl, closeB_length]) fun s h1 h2 => ?_
  have e1 : b.getD s false = b[s] := by simp [List.getD, h1]
  have e2 : (closeB N rows l).getD s false = (closeB N rows l)[s] := by simp [List.getD, h2]
  rw [Bool.eq_iff_iff, ← e1, ← e2, h, closeB_get]
/-- What is still to be looked at. -/
def todo (rows : List (List Int)) (b : List Bool) : Nat := ((List.range b.length).map fun s => if b.getD s false then 0 else (rows.getD s []).length).sum
theorem sum_map_le {α : Type} (l : List α) (f g : α → Nat) (h : ∀ x ∈ l, f x ≤ g x) : (l.map f).sum ≤ (l.map g).sum := by
  induction l with
  | nil => simp
  | cons x l ih =>
    have := h x (List.mem_cons_self ..)
    have := ih fun y hy => h y (List.mem_cons_of_mem _ hy)
    simp; omega
theorem sum_map_one (n s : Nat) (hs : s < n) (f g : Nat → Nat) (h : ∀ x, x ≠ s → f x = g x) : ((List.range n).map f).sum + g s = ((List.range n).map g).sum + f s := by
  induction n with
  | zero => omega
  | succ n ih =>
    simp only [List.range_succ, List.map_append, List.sum_append, List.map_cons, List.map_nil, List.sum_cons, List.sum_nil]
    by_cases e : s = n
    · subst e
      have : (List.range s).map f = (List.range s).map g := List.map_congr_left fun x hx => h x (by have := List.mem_range.1 hx; omega)
      rw [this]; omega
    · have := ih (by omega)
      have := h n (fun hc => e hc.symm)
      omega
theorem todo_set {rows : List (List Int)} {b : List Bool} {s : Nat} (hs : s < b.length) (hb : b.getD s false = false) : todo rows (b.set s true) + (rows.getD s []).length = todo rows b := by
  unfold todo
  rw [List.length_set]
  have := sum_map_one b.length s hs (fun x => if (b.set s true).getD x false then 0 else (rows.getD x []).length) (fun x => if b.getD x false then 0 else (rows.getD x []).length) (fun x hx => by
    rw [getD_set _ _ _ _ _ hs, if_neg (show ¬ s = x from fun hc => hx hc.symm)])
  rw [hb, getD_set _ _ _ _ _ hs, if_pos rfl] at this
  rw [if_neg (by simp), if_pos rfl] at this
  omega
/-- Between the rounds: what is marked is reached; what is reached is marked or waits. -/
structure Mid (N : Nat) (rows : List (List Int)) (l : List Int) (b : List Bool) (st : List Int) : Prop where
  len : b.length = N
  sound : ∀ s, b.getD s false = true → Rch N rows l s
  wait : ∀ s : Nat, (s : Int) ∈ st → s < N → Rch N rows l s
  base : ∀ s : Nat, (s : Int) ∈ l → s < N → b.getD s false = true ∨ (s : Int) ∈ st
  next : ∀ s t : Nat, b.getD s false = true → (t : Int) ∈ rows.getD s [] → t < N → b.getD t false = true ∨ (t : Int) ∈ st
theorem Mid.start (N rows l) : Mid N rows l (List.replicate N false) l := by
  have h0 : ∀ s, (List.replicate N false).getD s false = false := fun s => by simp only [List.getD, List.getElem?_replicate]; split <;> rfl
  exact ⟨by simp, fun s h => (by rw [h0] at h; cases h), fun s h hs => .base s h hs, fun s h _ => .inr h, fun s t h => (by rw [h0] at h; cases h)⟩
theorem Mid.done {N rows l b} (h : Mid N rows l b []) : b = closeB N rows l := by
  refine closeB_unique h.len fun s => ⟨h.sound s, fun hr => ?_⟩
  induction hr with
  | base s hm hs => rcases h.base s hm hs with h | h; · exact h
                    · cases h
  | step s t hr hm ht ih => rcases h.next s t ih hm ht with h | h; · exact h
                            · cases h
theorem Mid.skip {N rows l b st} {x : Int} (h : Mid N rows l b (st ++ [x])) (hx : ∀ s : Nat, x = s → s < N → b.getD s false = true) : Mid N rows l b st := by
  refine ⟨h.len, h.sound, fun s hm hs => h.wait s (by simp [hm]) hs, fun s hm hs => ?_, fun s t hb hm ht => ?_⟩
  · rcases h.base s hm hs with h1 | h1
    · exact .inl h1
    · rcases List.mem_append.1 h1 with h1 | h1
      · exact .inr h1
      · exact .inl (hx s (List.mem_singleton.1 h1).symm hs)
  · rcases h.next s t hb hm ht with h1 | h1
    · exact .inl h1
    · rcases List.mem_append.1 h1 with h1 | h1
      · exact .inr h1
      · exact .inl (hx t (List.mem_singleton.1 h1).symm ht)
theorem Mid.mark {N rows l b st} {s : Nat} (h : Mid N rows l b (st ++ [(s : Int)])) (hs : s < N) : Mid N rows l (b.set s true) (st ++ rows.getD s []) := by
  have hsl : s < b.length := by rw [h.len]; exact hs
  have hr : Rch N rows l s := h.wait s (by simp) hs
  have hg : ∀ t, (b.set s true).getD t false = true ↔ t = s ∨ b.getD t false = true := fun t => by
    rw [getD_set _ _ _ _ _ hsl]
    by_cases e : s = t
    · simp [e]
    · rw [if_neg e]; simp [show ¬ t = s from fun hc => e hc.symm]
  refine ⟨by simpa using h.len, fun t ht => ?_, fun t hm ht => ?_, fun t hm ht => ?_, fun t u hb hm hu => ?_⟩
  · rcases (hg t).1 ht with rfl | ht
    · exact hr
    · exact h.sound t ht
  · rcases List.mem_append.1 hm with hm | hm
    · exact h.wait t (by simp [hm]) ht
    · exact .step s t hr hm ht
  · rw [hg]
    rcases h.base t hm ht with h1 | h1
    · exact .inl (.inr h1)
    · rcases List.mem_append.1 h1 with h1 | h1
      · exact .inr (List.mem_append_left _ h1)
      · exact .inl (.inl (by have := List.mem_singleton.1 h1; omega))
  · rw [hg]
    rcases (hg t).1 hb with rfl | hb
    · exact .inr (List.mem_append_right _ hm)
    · rcases h.next t u hb hm hu with h1 | h1
      · exact .inl (.inr h1)
      · rcases List.mem_append.1 h1 with h1 | h1
        · exact .inr (List.mem_append_left _ h1)
        · exact .inl (.inl (by have := List.mem_singleton.1 h1; omega))
theorem idxs_snoc {b : List Bool} {i : Nat} (h : i < b.length) : idxs (b.take (i + 1)) = idxs (b.take i) ++ (if b.getD i false then [(i : Int)] else []) := by
  have e : ∀ n, n ≤ b.length → idxs (b.take n) = ((List.range n).map fun s => if b.getD s false then [(s : Int)] else []).flatten := fun n hn => by
    unfold idxs
    rw [List.length_take, Nat.min_eq_left hn]
    congr 1
    refine List.map_congr_left fun s hs => ?_
    have : s < n := List.mem_range.1 hs
    have : (b.take n).getD s false = b.getD s false := by simp [List.getD, List.getElem?_take, this]
    rw [this]
  rw [e _ (by omega), e _ (by omega), List.range_succ, List.map_append, List.flatten_append]
  congr 1
  rw [List.map_singleton]
  exact List.append_nil _
theorem todo_start {rows : List (List Int)} {N : Nat} (h : rows.length = N) : todo rows (List.replicate N false) = (rows.map List.length).sum := by
  subst h
  unfold todo
  congr 1
  refine List.ext_getElem (by simp) fun s h1 h2 => ?_
  have hs : s < rows.length := by simpa using h2
  simp [List.getD, List.getElem?_replicate, hs]
theorem idxs_le (b : List Bool) : (idxs b).length ≤ b.length := by
  unfold idxs
  rw [List.length_flatten, List.map_map]
  have h := sum_map_le (List.range b.length) (List.length ∘ fun s => if b.getD s false then [(s : Int)] else []) (fun _ => 1) (fun s _ => by
    show (if b.getD s false then [(s : Int)] else []).length ≤ 1
    split
    · exact Nat.le_refl 1
    · exact Nat.zero_le 1)
  have h2 : ∀ n : Nat, ((List.range n).map fun _ => 1).sum = n := fun n => by
    induction n with
    | zero => rfl
    | succ n ih => rw [List.range_succ, List.map_append, List.sum_append, ih]; rfl
  rw [h2] at h
  exact h
theorem row_le (rows : List (List Int)) (s : Nat) : (rows.getD s []).length ≤ (rows.map List.length).sum := by
  induction rows generalizing s with
  | nil => simp [List.getD]
  | cons r rows ih =>
    cases s with
    | zero => simp [List.getD]
    | succ s => have := ih s; simp only [List.getD_cons_succ, List.map_cons, List.sum_cons]; omega
theorem slRows_get {rows : List (List Int)} {s : Nat} (h : s < rows.length) : take1 false 1 ((rows.map slI).drop s) = some (slI (rows.getD s [])) := by
  rw [cs_get (by simpa using h)]; simp [List.getD, h]
theorem close_wp (md X cr k) (N : Nat) (hN : N ≤ 100000) (rows : List (List Int)) (hr : rows.length = N) (l : List Int) (hsz : l.length + (rows.map List.length).sum ≤ 1000000) (hk : l.length + (rows.map List.length).sum + N < k) :
    WP (EX md X) cr k (fun _ => none) (Tryd.f49.body.getD .skip) (begin_ [closerV N rows, slI l]) (fun _ => none) 0 (fun u a o nx => u = .ret ∧ A.view o vDepth (a 4) = slI (idxs (closeB N rows l))) := by
  simp only [Tryd.f49, Option.getD_some]
  have hz : (cI (List.replicate l.length 0)).drop l.length = [] := by simp [cI]
  simp (disch := omega) only [go_sem, ↓IntWalk.iteOmega, IntWalk.toNatUp, Nat.reduceEqDiff, Nat.reduceAdd, Nat.reduceMul, Nat.reduceSub, Nat.reduceLT, Nat.reduceLeDiff, Int.reduceToNat, Int.reduceLT, Int.reduceLE, Int.reduceEq, Int.reduceAdd, Int.reduceSub, Int.reduceMul, Int.toNat_natCast, reduceCtorEq, decide_true, decide_false, IntWalk.i64_in, IntWalk.u64_in, IntWalk.u8_in, begin_, rep_bool, rep_int, hz]
  refine WP_loop (fun m a o nx => ∃ b full n g, Mid N rows l b (full.take n) ∧ n ≤ full.length ∧ m = n + todo rows b ∧ 4 ≤ nx ∧ m ≤ l.length + (rows.map List.length).sum ∧ a 2 = .ptr (0, 2) (0, 2) 0 ∧ a 5 = .ref (1, 13) (1, 13) 0 N ∧ a 6 = .ref (2, 16) g 0 n ∧
      o (0, 2) = some (.row ⟨99, 1, (0, 2), false, true, [.int .i64 N, .sl N (rows.map slI)]⟩) ∧ o (1, 13) = some (.row ⟨4, 1, (1, 13), false, true, cB b⟩) ∧ o (2, 16) = some (.row ⟨3, 1, g, false, true, cI full⟩)) (l.length + (rows.map List.length).sum) ?_ ?_ ?_
  · omega
  · refine ⟨List.replicate N false, l, l.length, (2, 16), by rw [List.take_length]; exact Mid.start N rows l, Nat.le_refl _, by rw [todo_start hr], by omega, Nat.le_refl _, ?_⟩
    simp only [go_sem, ↓IntWalk.iteOmega, IntWalk.toNatUp, Nat.reduceEqDiff, Nat.reduceAdd, Nat.reduceMul, Nat.reduceSub, Nat.reduceLT, Nat.reduceLeDiff, Int.reduceToNat, Int.reduceLT, Int.reduceLE, Int.reduceEq, Int.reduceAdd, Int.reduceSub, Int.reduceMul, Int.toNat_natCast, reduceCtorEq, decide_true, decide_false, IntWalk.i64_in, IntWalk.u64_in, IntWalk.u8_in, begin_]
  · rintro m a o nx ⟨b, full, n, g, hM, hn, rfl, hnx, hm, h2, h5, h6, ho2, ho13, ho16⟩
    have hbl := hM.len
    by_cases h0 : n = 0
    · subst h0
      rw [List.take_zero] at hM
      have hdone := hM.done
      simp (disch := omega) only [go_sem, ↓IntWalk.iteOmega, IntWalk.toNatUp, Nat.reduceEqDiff, Nat.reduceAdd, Nat.reduceMul, Nat.reduceSub, Nat.reduceLT, Nat.reduceLeDiff, Int.reduceToNat, Int.reduceLT, Int.reduceLE, Int.reduceEq, Int.reduceAdd, Int.reduceSub, Int.reduceMul, Int.toNat_natCast, reduceCtorEq, decide_true, decide_false, IntWalk.i64_in, IntWalk.u64_in, IntWalk.u8_in, h2, h5, h6, ho2, ho13, ho16]
      refine WP_loop (fun m a o nx' => ∃ i g, i ≤ N ∧ m = N - i ∧ nx + 2 ≤ nx' ∧ a 8 = .ref (nx + 1, 61) g 0 (idxs (b.take i)).length ∧ a 62 = .ref (1, 13) (1, 13) 0 N ∧ a 63 = .int .i64 N ∧ a 64 = .int .i64 i ∧
        o (1, 13) = some (.row ⟨4, 1, (1, 13), false, true, cB b⟩) ∧ o (nx + 1, 61) = some (.row ⟨3, 1, g, false, true, cI (idxs (b.take i))⟩)) N ?_ ?_ ?_
      · omega
      · refine ⟨0, (nx + 1, 61), by omega, by omega, by omega, ?_⟩
        have h0 : idxs (b.take 0) = [] := rfl
        simp only [go_sem, ↓IntWalk.iteOmega, IntWalk.toNatUp, Nat.reduceEqDiff, Nat.reduceAdd, Nat.reduceMul, Nat.reduceSub, Nat.reduceLT, Nat.reduceLeDiff, Int.reduceToNat, Int.reduceLT, Int.reduceLE, Int.reduceEq, Int.reduceAdd, Int.reduceSub, Int.reduceMul, Int.toNat_natCast, reduceCtorEq, decide_true, decide_false, IntWalk.i64_in, IntWalk.u64_in, IntWalk.u8_in, ho13, h0]
        exact ⟨rfl, rfl⟩
      · rintro m a o nx' ⟨i, g, hi, rfl, hnx', h8, h62, h63, h64, ho13, ho61⟩
        by_cases hlt : i < N
        · have hib : i < b.length := by omega
          have hgb := cB_get (s := 1) hib
          have hsn := idxs_snoc hib
          have hle := idxs_le (b.take i)
          rw [List.length_take] at hle
          cases hbi : b.getD i false with
          | true =>
            rw [hbi] at hgb hsn
            rw [if_pos rfl] at hsn
            simp (disch := omega) only [go_sem, ↓IntWalk.iteOmega, IntWalk.toNatUp, Nat.reduceEqDiff, Nat.reduceAdd, Nat.reduceMul, Nat.reduceSub, Nat.reduceLT, Nat.reduceLeDiff, Int.reduceToNat, Int.reduceLT, Int.reduceLE, Int.reduceEq, Int.reduceAdd, Int.reduceSub, Int.reduceMul, Int.toNat_natCast, reduceCtorEq, decide_true, decide_false, IntWalk.i64_in, IntWalk.u64_in, IntWalk.u8_in, h8, h62, h63, h64, ho13, ho61, hgb, IntWalk.i64_in]
            exact ⟨_, by omega, i + 1, _, by omega, rfl, by omega, by rw [hsn, List.length_append]; rfl, by simp, by rw [hsn, cI_app]; rfl⟩
          | false =>
            rw [hbi] at hgb hsn
            rw [if_neg (by simp), List.append_nil] at hsn
            simp (disch := omega) only [go_sem, ↓IntWalk.iteOmega, IntWalk.toNatUp, Nat.reduceEqDiff, Nat.reduceAdd, Nat.reduceMul, Nat.reduceSub, Nat.reduceLT, Nat.reduceLeDiff, Int.reduceToNat, Int.reduceLT, Int.reduceLE, Int.reduceEq, Int.reduceAdd, Int.reduceSub, Int.reduceMul, Int.toNat_natCast, reduceCtorEq, decide_true, decide_false, IntWalk.i64_in, IntWalk.u64_in, IntWalk.u8_in, h8, h62, h63, h64, ho13, ho61, hgb, IntWalk.i64_in]
            exact ⟨_, by omega, i + 1, g, by omega, rfl, by omega, by rw [hsn], by simp, by rw [hsn]⟩
        · have e : i = N := by omega
          subst e
          rw [List.take_of_length_le (by omega)] at h8 ho61
          have hlb := idxs_le b
          rw [← hdone]
          by_cases hz : (idxs b).length = 0
          · simp (disch := omega) only [go_sem, ↓IntWalk.iteOmega, IntWalk.toNatUp, Nat.reduceEqDiff, Nat.reduceAdd, Nat.reduceMul, Nat.reduceSub, Nat.reduceLT, Nat.reduceLeDiff, Int.reduceToNat, Int.reduceLT, Int.reduceLE, Int.reduceEq, Int.reduceAdd, Int.reduceSub, Int.reduceMul, Int.toNat_natCast, reduceCtorEq, decide_true, decide_false, IntWalk.i64_in, IntWalk.u64_in, IntWalk.u8_in, h8, h62, h63, h64, ho13, ho61, hz]
            rw [List.length_eq_zero_iff.1 hz]; rfl
          · simp (disch := omega) only [go_sem, ↓IntWalk.iteOmega, IntWalk.toNatUp, Nat.reduceEqDiff, Nat.reduceAdd, Nat.reduceMul, Nat.reduceSub, Nat.reduceLT, Nat.reduceLeDiff, Int.reduceToNat, Int.reduceLT, Int.reduceLE, Int.reduceEq, Int.reduceAdd, Int.reduceSub, Int.reduceMul, Int.toNat_natCast, reduceCtorEq, decide_true, decide_false, IntWalk.i64_in, IntWalk.u64_in, IntWalk.u8_in, h8, h62, h63, h64, ho13, ho61, hz]
    · have hg := cI_get (s := 1) (show n - 1 < full.length by omega)
      have htk : full.take n = full.take (n - 1) ++ [full.getD (n - 1) 0] := by
        have := take_succ_getD (show n - 1 < full.length by omega) 0
        rwa [show n - 1 + 1 = n by omega] at this
      rw [htk] at hM
      generalize full.getD (n - 1) 0 = x at hg htk hM
      have htk1 : (full.take (n - 1)).length = n - 1 := by rw [List.length_take]; omega
      by_cases hx0 : 0 ≤ x
      · obtain ⟨s, rfl⟩ := Int.eq_ofNat_of_zero_le hx0
        by_cases hs : s < N
        · have hgb := cB_get (s := 1) (show s < b.length by omega)
          have hrow := slRows_get (rows := rows) (show s < rows.length by omega)
          have hcs := cB_set b s true (by omega)
          cases hbs : b.getD s false with
          | true =>
            rw [hbs] at hgb
            simp (disch := omega) only [go_sem, ↓IntWalk.iteOmega, IntWalk.toNatUp, Nat.reduceEqDiff, Nat.reduceAdd, Nat.reduceMul, Nat.reduceSub, Nat.reduceLT, Nat.reduceLeDiff, Int.reduceToNat, Int.reduceLT, Int.reduceLE, Int.reduceEq, Int.reduceAdd, Int.reduceSub, Int.reduceMul, Int.toNat_natCast, reduceCtorEq, decide_true, decide_false, IntWalk.i64_in, IntWalk.u64_in, IntWalk.u8_in, h2, h5, h6, ho2, ho13, ho16, hg, hgb, IntWalk.i64_in]
            refine ⟨_, ?_, b, full, n - 1, g, hM.skip (fun t ht _ => ?_), by omega, rfl, by omega, rfl, rfl, rfl⟩
            · omega
            · have : s = t := by omega
              rw [← this, hbs]
          | false =>
            rw [hbs] at hgb
            have htd := todo_set (rows := rows) (show s < b.length by omega) hbs
            have hrl : (rows.getD s []).length ≤ (rows.map List.length).sum := row_le rows s
            simp (disch := omega) only [go_sem, ↓IntWalk.iteOmega, IntWalk.toNatUp, Nat.reduceEqDiff, Nat.reduceAdd, Nat.reduceMul, Nat.reduceSub, Nat.reduceLT, Nat.reduceLeDiff, Int.reduceToNat, Int.reduceLT, Int.reduceLE, Int.reduceEq, Int.reduceAdd, Int.reduceSub, Int.reduceMul, Int.toNat_natCast, reduceCtorEq, decide_true, decide_false, IntWalk.i64_in, IntWalk.u64_in, IntWalk.u8_in, h2, h5, h6, ho2, ho13, ho16, hg, hgb, hrow, hcs, cI_take, IntWalk.i64_in]
            refine ⟨_, ?_, b.set s true, full.take (n - 1) ++ rows.getD s [], n - 1 + (rows.getD s []).length, _, ?_, ?_, rfl, ?_, rfl, rfl, by rw [cI_app]⟩
            · omega
            · rw [List.take_of_length_le (by rw [List.length_append]; omega)]
              exact hM.mark hs
            · rw [List.length_append]; omega
            · omega
        · simp (disch := omega) only [go_sem, ↓IntWalk.iteOmega, IntWalk.toNatUp, Nat.reduceEqDiff, Nat.reduceAdd, Nat.reduceMul, Nat.reduceSub, Nat.reduceLT, Nat.reduceLeDiff, Int.reduceToNat, Int.reduceLT, Int.reduceLE, Int.reduceEq, Int.reduceAdd, Int.reduceSub, Int.reduceMul, Int.toNat_natCast, reduceCtorEq, decide_true, decide_false, IntWalk.i64_in, IntWalk.u64_in, IntWalk.u8_in, h2, h5, h6, ho2, ho13, ho16, hg, IntWalk.i64_in]
          exact ⟨_, by omega, b, full, n - 1, g, hM.skip (fun t ht htN => by omega), by omega, rfl, by omega, rfl, rfl, rfl⟩
      · simp (disch := omega) only [go_sem, ↓IntWalk.iteOmega, IntWalk.toNatUp, Nat.reduceEqDiff, Nat.reduceAdd, Nat.reduceMul, Nat.reduceSub, Nat.reduceLT, Nat.reduceLeDiff, Int.reduceToNat, Int.reduceLT, Int.reduceLE, Int.reduceEq, Int.reduceAdd, Int.reduceSub, Int.reduceMul, Int.toNat_natCast, reduceCtorEq, decide_true, decide_false, IntWalk.i64_in, IntWalk.u64_in, IntWalk.u8_in, h2, h5, h6, ho2, ho13, ho16, hg, IntWalk.i64_in]
        exact ⟨_, by omega, b, full, n - 1, g, hM.skip (fun t ht _ => by omega), by omega, rfl, by omega, rfl, rfl, rfl⟩
theorem look39 (X) : lookedAt (EX md0 X) (fun _ => none) 2 Tryd.f49 = true := by kernel_rfl
theorem close_ok (N : Nat) (hN : N ≤ 100000) (rows : List (List Int)) (hr : rows.length = N) (l : List Int) (hsz : l.length + (rows.map List.length).sum ≤ 1000000) : Ok Tryd.prog 49 [closerV N rows, slI l] (slI (idxs (closeB N rows l))) := by
  refine ok_of_WP (E := EX md0 (fun _ _ => none)) (cr := noR) (tab_nil _) (noR_ok _) mixed (k := l.length + (rows.map List.length).sum + N + 1) Tryd.func49 (look39 _) rfl (WP_mono (close_wp _ _ _ _ N hN rows hr l hsz (by omega)) ?_)
  rintro u a o nx ⟨rfl, h⟩
  exact ⟨.inr rfl, h⟩
end Go.Proofs.YtbapebepmbikhaaDoor.A
/- nfa.Close, nfa.Run: contracts. -/
namespace Go.Proofs.YtbapebepmbikhaaDoor.A
open Go
set_option maxRecDepth 20000
/-! ### relations -/
def R38 (args : List AV) (r : AV) : Prop := ∃ (N : Nat) (S F : Int) (ss : List (Int × Int × Int)) (fs : List (Int × Int)), N ≤ 1000 ∧ fs.length ≤ 100000 ∧ (∀ p ∈ fs, 0 ≤ p.1 ∧ p.1 < (N : Int)) ∧ args = [nfaV N S F ss fs] ∧ r = closerV N (rowsOf N fs)
def R39 (args : List AV) (r : AV) : Prop := ∃ (N : Nat) (rows : List (List Int)) (l : List Int), N ≤ 100000 ∧ rows.length = N ∧ l.length + (rows.map List.length).sum ≤ 1000000 ∧ args = [closerV N rows, slI l] ∧ r = slI (idxs (closeB N rows l))
theorem R38_fn : Fun1 R38 := by
  rintro args r r' ⟨N, S, F, ss, fs, _, _, _, rfl, rfl⟩ ⟨N', S', F', ss', fs', _, _, _, h, rfl⟩
  simp only [nfaV, List.cons.injEq, AV.agg.injEq, AV.int.injEq, AV.sl.injEq, true_and, and_true] at h
  obtain ⟨h1, _, _, _, _, h2⟩ := h
  have h1 : N = N' := by omega
  rw [h1, cP_inj h2]
theorem R39_fn : Fun1 R39 := by
  rintro args r r' ⟨N, rows, l, _, _, _, rfl, rfl⟩ ⟨N', rows', l', _, _, _, h, rfl⟩
  simp only [closerV, List.cons.injEq, AV.agg.injEq, AV.int.injEq, AV.sl.injEq, true_and, and_true] at h
  obtain ⟨⟨h1, _, h2⟩, _, h3⟩ := h
  have h1 : N = N' := by omega
  rw [h1, slIs_inj h2, cI_inj h3]
theorem R38_ok (args r) (h : R38 args r) : Ok Tryd.prog 48 args r := by
  obtain ⟨N, S, F, ss, fs, h1, h2, h3, rfl, rfl⟩ := h
  exact closing_ok N S F h1 ss fs h2 h3
theorem R39_ok (args r) (h : R39 args r) : Ok Tryd.prog 49 args r := by
  obtain ⟨N, rows, l, h1, h2, h3, rfl, rfl⟩ := h
  exact close_ok N h1 rows h2 l h3
theorem rows_sum {N : Nat} {fs : List (Int × Int)} (h : ∀ p ∈ fs, 0 ≤ p.1 ∧ p.1 < (N : Int)) : ((rowsOf N fs).map List.length).sum = fs.length := by
  have key : ∀ (l : List (Int × Int)) (rows : List (List Int)), rows.length = N → (∀ p ∈ l, 0 ≤ p.1 ∧ p.1 < (N : Int)) → ((l.foldl rowAdd rows).map List.length).sum = (rows.map List.length).sum + l.length := fun l => by
    induction l with
    | nil => intro rows _ _; simp
    | cons p l ih =>
      intro rows hl hp
      have hp0 := hp p (List.mem_cons_self ..)
      have hlt : p.1.toNat < rows.length := by omega
      rw [List.foldl_cons, ih _ (by simpa [rowAdd] using hl) (fun q hq => hp q (List.mem_cons_of_mem _ hq))]
      have : ((rowAdd rows p).map List.length).sum = (rows.map List.length).sum + 1 := by
        unfold rowAdd
        have e : ∀ (rs : List (List Int)) (i : Nat) (x : List Int), i < rs.length → ((rs.set i x).map List.length).sum + (rs.getD i []).length = (rs.map List.length).sum + x.length := fun rs => by
          induction rs with
          | nil => intro i x h; simp at h
          | cons r rs ih =>
            intro i x h
            cases i with
            | zero => simp [List.getD]; omega
            | succ i =>
              have := ih i x (by simpa using h)
              simp only [List.set_cons_succ, List.map_cons, List.sum_cons, List.getD_cons_succ]
              omega
        have := e rows p.1.toNat (rows.getD p.1.toNat [] ++ [p.2]) hlt
        rw [List.length_append, List.length_singleton] at this
        omega
      rw [this, List.length_cons]; omega
  have := key fs (List.replicate N []) (by simp) h
  simpa [rowsOf] using this

/-! ### Close -/
noncomputable def X28 : FuncId → List AV → Option AV := tabLook [(48, tRel R38), (49, tRel R39)]
theorem X28_ok : CPSound Tryd.prog X28 := tab_cons (tab_cons (tab_nil _) (tRel_ok R39_ok)) (tRel_ok R38_ok)
theorem X28_38 {N : Nat} (S F : Int) (ss) {fs : List (Int × Int)} (hN : N ≤ 1000) (hfs : fs.length ≤ 100000) (hin : ∀ p ∈ fs, 0 ≤ p.1 ∧ p.1 < (N : Int)) : X28 48 [nfaV N S F ss fs] = some (closerV N (rowsOf N fs)) := by
  show tRel R38 _ = _
  exact tRel_eq R38_fn ⟨N, S, F, ss, fs, hN, hfs, hin, rfl, rfl⟩
theorem X28_39 {N : Nat} {fs : List (Int × Int)} (hN : N ≤ 1000) (hfs : fs.length ≤ 100000) (hin : ∀ p ∈ fs, 0 ≤ p.1 ∧ p.1 < (N : Int)) (l : List Int) (hl : l.length ≤ 900000) : X28 49 [closerV N (rowsOf N fs), slI l] = some (slI (idxs (closeB N (rowsOf N fs) l))) := by
  show tRel R39 _ = _
  exact tRel_eq R39_fn ⟨N, rowsOf N fs, l, by omega, rowsOf_length _ _, by rw [rows_sum hin]; omega, rfl, rfl⟩
theorem look28 (X) : lookedAt (EX md0 X) (fun _ => none) 2 Tryd.f36 = true := by kernel_rfl
theorem nfaClose_ok (N : Nat) (hN : N ≤ 1000) (S F : Int) (ss) (fs : List (Int × Int)) (hfs : fs.length ≤ 100000) (hin : ∀ p ∈ fs, 0 ≤ p.1 ∧ p.1 < (N : Int)) (l : List Int) (hl : l.length ≤ 900000) : Ok Tryd.prog 36 [nfaV N S F ss fs, slI l] (slI (idxs (closeB N (rowsOf N fs) l))) := by
  refine ok_of_WP (E := EX md0 X28) (cr := noR) X28_ok (noR_ok _) mixed (k := 0) Tryd.func36 (look28 _) rfl ?_
  have h38 := X28_38 S F ss hN hfs hin
  have h39 := X28_39 hN hfs hin l hl
  simp only [Tryd.f36, Option.getD_some]
  simp (disch := omega) only [go_sem, ↓IntWalk.iteOmega, IntWalk.toNatUp, Nat.reduceEqDiff, Nat.reduceAdd, Nat.reduceMul, Nat.reduceSub, Nat.reduceLT, Nat.reduceLeDiff, Int.reduceToNat, Int.reduceLT, Int.reduceLE, Int.reduceEq, Int.reduceAdd, Int.reduceSub, Int.reduceMul, Int.toNat_natCast, reduceCtorEq, decide_true, decide_false, IntWalk.i64_in, IntWalk.u64_in, IntWalk.u8_in, begin_, h38, h39]

/-! ### Run -/
/-- Is a mode one of a set's? -/
def hasMode (set m : Int) : Bool := decide (andI .i64 (set.fdiv (2 ^ min m.toNat 64)) 1 = 1)
/-- Does a step lead on by a mode, from states? -/
def leads (b : List Bool) (m : Int) (s : Int × Int × Int) : Bool := b.getD s.1.toNat false && (decide (0 ≤ m) && decide (m < 5) && hasMode s.2.2 m)
def nextOf (ss : List (Int × Int × Int)) (b : List Bool) (m : Int) : List Int := (ss.filter (leads b m)).map (·.2.1)
noncomputable def stepB (N : Nat) (rows : List (List Int)) (ss : List (Int × Int × Int)) (b : List Bool) (m : Int) : List Bool := closeB N rows (nextOf ss b m)
noncomputable def setB (N : Nat) (S : Int) (ss : List (Int × Int × Int)) (fs : List (Int × Int)) (w : List Int) : List Bool := w.foldl (stepB N (rowsOf N fs) ss) (closeB N (rowsOf N fs) [S])
noncomputable def runB (N : Nat) (S F : Int) (ss : List (Int × Int × Int)) (fs : List (Int × Int)) (w : List Int) : Bool := (setB N S ss fs w).getD F.toNat false
theorem setB_snoc (N S ss fs w m) : setB N S ss fs (w ++ [m]) = stepB N (rowsOf N fs) ss (setB N S ss fs w) m := by simp [setB]
theorem setB_length (N S ss fs w) : (setB N S ss fs w).length = N := by
  rcases List.eq_nil_or_concat w with rfl | ⟨w, m, rfl⟩
  · simp [setB, closeB_length]
  · rw [List.concat_eq_append, setB_snoc, stepB, closeB_length]
theorem nextOf_snoc (ss s b m) : nextOf (ss ++ [s]) b m = nextOf ss b m ++ (if leads b m s then [s.2.1] else []) := by
  unfold nextOf
  rw [List.filter_append, List.map_append]
  congr 1
  cases h : leads b m s <;> simp [h]
theorem nextOf_le (ss b m) : (nextOf ss b m).length ≤ ss.length := by
  unfold nextOf; rw [List.length_map]; exact List.length_filter_le _ _
theorem mem_idxs {b : List Bool} {x : Int} : x ∈ idxs b ↔ ∃ s : Nat, x = s ∧ b.getD s false = true := by
  unfold idxs
  rw [List.mem_flatten]
  constructor
  · rintro ⟨l, hl, hx⟩
    obtain ⟨s, _, rfl⟩ := List.mem_map.1 hl
    cases hb : b.getD s false with
    | true => rw [hb] at hx; exact ⟨s, by simpa using hx, hb⟩
    | false => rw [hb] at hx; simp at hx
  · rintro ⟨s, rfl, hb⟩
    have hs : s < b.length := by
      by_cases h : s < b.length
      · exact h
      · rw [List.getD, List.getElem?_eq_none (by omega)] at hb; cases hb
    exact ⟨_, List.mem_map.2 ⟨s, List.mem_range.2 hs, rfl⟩, by rw [hb]; simp⟩
def marks (N : Nat) (l : List Int) : List Bool := l.foldl (fun b s => b.set s.toNat true) (List.replicate N false)
theorem marks_snoc (N l x) : marks N (l ++ [x]) = (marks N l).set x.toNat true := by simp [marks]
theorem marks_length (N l) : (marks N l).length = N := by
  have : ∀ (l : List Int) (b : List Bool), (l.foldl (fun b s => b.set s.toNat true) b).length = b.length := fun l => by
    induction l with
    | nil => intro; rfl
    | cons x l ih => intro b; rw [List.foldl_cons, ih, List.length_set]
  rw [marks, this, List.length_replicate]
theorem marks_get (N : Nat) (l : List Int) (h : ∀ x ∈ l, 0 ≤ x ∧ x < (N : Int)) (s : Nat) : (marks N l).getD s false = true ↔ (s : Int) ∈ l := by
  have key : ∀ (l : List Int) (b : List Bool), b.length = N → (∀ x ∈ l, 0 ≤ x ∧ x < (N : Int)) → ((l.foldl (fun b s => b.set s.toNat true) b).getD s false = true ↔ b.getD s false = true ∨ (s : Int) ∈ l) := fun l => by
    induction l with
    | nil => intro b _ _; simp
    | cons x l ih =>
      intro b hb hx
      have h0 := hx x (List.mem_cons_self ..)
      rw [List.foldl_cons, ih _ (by rw [List.length_set]; exact hb) (fun y hy => hx y (List.mem_cons_of_mem _ hy)), getD_set _ _ _ _ _ (by omega), List.mem_cons]
      by_cases e : x.toNat = s
      · have : (s : Int) = x := by omega
        simp [e, this]
      · have : ¬ (s : Int) = x := by omega
        rw [if_neg e]; simp [this]
  have h0 : (List.replicate N false).getD s false = false := by simp only [List.getD, List.getElem?_replicate]; split <;> rfl
  have := key l (List.replicate N false) (by simp) h
  rw [h0] at this
  simpa [marks] using this
theorem idxs_in {b : List Bool} {x : Int} (h : x ∈ idxs b) : 0 ≤ x ∧ x < b.length := by
  obtain ⟨s, rfl, hb⟩ := mem_idxs.1 h
  by_cases h : s < b.length
  · omega
  · rw [List.getD, List.getElem?_eq_none (by omega)] at hb; cases hb
theorem marks_idxs (b : List Bool) : marks b.length (idxs b) = b := by
  refine List.ext_getElem (marks_length _ _) fun s h1 h2 => ?_
  have e1 : (marks b.length (idxs b)).getD s false = (marks b.length (idxs b))[s] := by simp [List.getD, h1]
  have e2 : b.getD s false = b[s] := by simp [List.getD, h2]
  rw [Bool.eq_iff_iff, ← e1, ← e2, marks_get _ _ (fun x hx => idxs_in hx), mem_idxs]
  constructor
  · rintro ⟨t, ht, hb⟩
    have : s = t := by omega
    rw [this]; exact hb
  · exact fun hb => ⟨s, rfl, hb⟩
/-- A machine that may be. -/
structure Wf (N : Nat) (S F : Int) (ss : List (Int × Int × Int)) (fs : List (Int × Int)) : Prop where
  n : N ≤ 1000
  s : 0 ≤ S ∧ S < N
  f : 0 ≤ F ∧ F < N
  ls : ss.length ≤ 100000
  lf : fs.length ≤ 100000
  steps : ∀ p ∈ ss, (0 ≤ p.1 ∧ p.1 < N) ∧ (0 ≤ p.2.1 ∧ p.2.1 < N)
  free : ∀ p ∈ fs, (0 ≤ p.1 ∧ p.1 < N) ∧ (0 ≤ p.2 ∧ p.2 < N)
theorem getD_mem {α : Type} {l : List α} {i : Nat} (h : i < l.length) (d : α) : l.getD i d ∈ l := by
  have : l.getD i d = l[i] := by simp [List.getD, h]
  rw [this]; exact List.getElem_mem h

end Go.Proofs.YtbapebepmbikhaaDoor.A
/- The document's closure: closed, List. -/
namespace Go.Proofs.YtbapebepmbikhaaDoor.A
open Go
set_option maxRecDepth 20000
theorem rowsOf_mem {N : Nat} {fs : List (Int × Int)} (hin : ∀ p ∈ fs, 0 ≤ p.1 ∧ p.1 < (N : Int)) {j : Nat} (hj : j < N) (x : Int) : x ∈ (rowsOf N fs).getD j [] ↔ ((j : Int), x) ∈ fs := by
  have key : ∀ (l : List (Int × Int)) (rows : List (List Int)), rows.length = N → (∀ p ∈ l, 0 ≤ p.1 ∧ p.1 < (N : Int)) → (x ∈ (l.foldl rowAdd rows).getD j [] ↔ x ∈ rows.getD j [] ∨ ((j : Int), x) ∈ l) := fun l => by
    induction l with
    | nil => intro rows _ _; simp
    | cons p l ih =>
      intro rows hl hp
      have hp0 := hp p (List.mem_cons_self ..)
      rw [List.foldl_cons, ih _ (by simpa [rowAdd] using hl) (fun q hq => hp q (List.mem_cons_of_mem _ hq)), rowAdd, getD_set _ _ _ _ _ (by omega), List.mem_cons]
      obtain ⟨f, t⟩ := p
      simp only at hp0 ⊢
      by_cases e : f.toNat = j
      · have : f = (j : Int) := by omega
        subst this
        rw [if_pos e, Int.toNat_natCast, List.mem_append, List.mem_singleton]
        simp only [Prod.mk.injEq, true_and]
        exact or_assoc
      · rw [if_neg e]
        have : ¬ ((j : Int), x) = (f, t) := fun h => by injection h with h _; omega
        simp [this]
  have h0 : (List.replicate N ([] : List Int)).getD j [] = [] := by simp [List.getD, List.getElem?_replicate, hj]
  have := key fs (List.replicate N []) (by simp) hin
  rw [h0] at this
  simpa [rowsOf] using this
theorem Rch.mono {N rows l l'} (h : ∀ s : Nat, (s : Int) ∈ l → s < N → (s : Int) ∈ l') {s} (hr : Rch N rows l s) : Rch N rows l' s := by
  induction hr with
  | base s hm hs => exact .base s (h s hm hs) hs
  | step s t _ hm ht ih => exact .step s t ih hm ht
theorem closeB_congr {N rows l l'} (h : ∀ s : Nat, s < N → ((s : Int) ∈ l ↔ (s : Int) ∈ l')) : closeB N rows l = closeB N rows l' := by
  refine closeB_unique (closeB_length _ _ _) fun s => ?_
  rw [closeB_get]
  exact ⟨Rch.mono fun s hm hs => (h s hs).1 hm, Rch.mono fun s hm hs => (h s hs).2 hm⟩
def falses (b : List Bool) : Nat := ((List.range b.length).map fun s => if b.getD s false then 0 else 1).sum
theorem falses_set {b : List Bool} {s : Nat} (hs : s < b.length) (hb : b.getD s false = false) : falses (b.set s true) + 1 = falses b := by
  unfold falses
  rw [List.length_set]
  have := sum_map_one b.length s hs (fun x => if (b.set s true).getD x false then 0 else 1) (fun x => if b.getD x false then 0 else 1) (fun x hx => by
    rw [getD_set _ _ _ _ _ hs, if_neg (show ¬ s = x from fun hc => hx hc.symm)])
  rw [hb, getD_set _ _ _ _ _ hs, if_pos rfl] at this
  rw [if_neg (by simp), if_pos rfl] at this
  omega
theorem falses_idxs (b : List Bool) : falses b + (idxs b).length = b.length := by
  have key : ∀ n, ((List.range n).map fun s => if b.getD s false then 0 else 1).sum + (((List.range n).map fun s => if b.getD s false then [(s : Int)] else []).flatten).length = n := fun n => by
    induction n with
    | zero => rfl
    | succ n ih =>
      rw [List.range_succ, List.map_append, List.map_append, List.sum_append, List.flatten_append, List.length_append]
      have : ([n].map fun s => if b.getD s false then 0 else 1).sum + (([n].map fun s => if b.getD s false then [(s : Int)] else []).flatten).length = 1 := by
        simp only [List.map_cons, List.map_nil, List.sum_cons, List.sum_nil, List.flatten_cons, List.flatten_nil]
        cases b.getD n false <;> rfl
      omega
  exact key b.length
/-- Between two rounds of the search. -/
structure Bfs (N : Nat) (rows : List (List Int)) (src : List Int) (b : List Bool) (l : List Int) (i : Nat) : Prop where
  len : b.length = N
  cnt : falses b + l.length = N
  mark : ∀ s : Nat, b.getD s false = true ↔ (s : Int) ∈ l
  ok : ∀ x ∈ l, 0 ≤ x ∧ x < (N : Int)
  sound : ∀ s, b.getD s false = true → Rch N rows src s
  base : ∀ s : Nat, (s : Int) ∈ src → s < N → b.getD s false = true
  done : ∀ s : Nat, (s : Int) ∈ l.take i → ∀ t : Nat, (t : Int) ∈ rows.getD s [] → b.getD t false = true
theorem Bfs.start (rows) (b : List Bool) : Bfs b.length rows (idxs b) b (idxs b) 0 :=
  ⟨rfl, falses_idxs b, fun s => by rw [mem_idxs]; exact ⟨fun h => ⟨s, rfl, h⟩, fun ⟨t, ht, h⟩ => by rwa [show s = t by omega]⟩, fun x hx => idxs_in hx,
    fun s h => .base s (mem_idxs.2 ⟨s, rfl, h⟩) (by by_cases hs : s < b.length; · exact hs
                                                    · rw [List.getD, List.getElem?_eq_none (by omega)] at h; cases h),
    fun s hm _ => by obtain ⟨t, ht, h⟩ := mem_idxs.1 hm; rwa [show s = t by omega], fun s hm => by simp at hm⟩
theorem Bfs.finish {N rows src b l} (h : Bfs N rows src b l l.length) : b = closeB N rows src := by
  refine closeB_unique h.len fun s => ⟨h.sound s, fun hr => ?_⟩
  induction hr with
  | base s hm hs => exact h.base s hm hs
  | step s t _ hm ht ih => exact h.done s (by rw [List.take_length]; exact (h.mark s).1 ih) t hm
theorem Bfs.add {N rows src b l i} (h : Bfs N rows src b l i) (hi : i < l.length) {s t : Nat} (hs : l.getD i 0 = s) (ht : t < N) (hm : (t : Int) ∈ rows.getD s []) (hb : b.getD t false = false) : Bfs N rows src (b.set t true) (l ++ [(t : Int)]) i := by
  have htl : t < b.length := by rw [h.len]; exact ht
  have hg : ∀ u, (b.set t true).getD u false = true ↔ u = t ∨ b.getD u false = true := fun u => by
    rw [getD_set _ _ _ _ _ htl]
    by_cases e : t = u
    · simp [e]
    · rw [if_neg e]; simp [show ¬ u = t from fun hc => e hc.symm]
  have hsl : (s : Int) ∈ l := by rw [← hs]; exact getD_mem hi 0
  refine ⟨by simpa using h.len, ?_, fun u => ?_, fun x hx => ?_, fun u hu => ?_, fun u hu hn => (hg u).2 (.inr (h.base u hu hn)), fun u hu v hv => ?_⟩
  · have := falses_set htl hb
    have := h.cnt
    rw [List.length_append, List.length_singleton]; omega
  · rw [hg, List.mem_append, List.mem_singleton, h.mark]
    constructor
    · rintro (rfl | h)
      · exact .inr rfl
      · exact .inl h
    · rintro (h | h)
      · exact .inr h
      · exact .inl (by omega)
  · rcases List.mem_append.1 hx with hx | hx
    · exact h.ok x hx
    · rw [List.mem_singleton.1 hx]; omega
  · rcases (hg u).1 hu with rfl | hu
    · exact .step s u (h.sound s ((h.mark s).2 hsl)) hm ht
    · exact h.sound u hu
  · rw [List.take_append_of_le_length (by omega)] at hu
    exact (hg v).2 (.inr (h.done u hu v hv))
theorem Bfs.next {N rows src b l i} (h : Bfs N rows src b l i) (hi : i < l.length) {s : Nat} (hs : l.getD i 0 = s) (hd : ∀ t : Nat, (t : Int) ∈ rows.getD s [] → b.getD t false = true) : Bfs N rows src b l (i + 1) :=
  ⟨h.len, h.cnt, h.mark, h.ok, h.sound, h.base, fun u hu t ht => by
    rw [take_succ_getD hi 0, hs, List.mem_append, List.mem_singleton] at hu
    rcases hu with hu | hu
    · exact h.done u hu t ht
    · rw [show u = s by omega] at ht; exact hd t ht⟩
def nz46 : Nat → Option (List (Nat × Nat))
  | 13 => some [(2, 10), (5, 10), (7, 10), (2, 11)]
  | _ => none
theorem closed_wp (md X cr k) (N : Nat) (S F : Int) (ss fs) (hw : Wf N S F ss fs) (is : List Bool) (his : is.length = N) (hk : N + fs.length + 1 < k) :
    WP (EX md X) cr k nz46 (Tryd.f50.body.getD .skip) (begin_ [nfaV N S F ss fs, slB is]) (fun _ => none) 0 (fun u a o nx => u = .ret ∧ A.view o vDepth (a 4) = slB (closeB N (rowsOf N fs) (idxs is))) := by
  have hN := hw.n
  have hlf := hw.lf
  simp only [Tryd.f50, Option.getD_some]
  have hz : ([] : List AV).length = 0 := rfl
  simp (disch := omega) only [go_sem, ↓IntWalk.iteOmega, IntWalk.toNatUp, Nat.reduceEqDiff, Nat.reduceAdd, Nat.reduceMul, Nat.reduceSub, Nat.reduceLT, Nat.reduceLeDiff, Int.reduceToNat, Int.reduceLT, Int.reduceLE, Int.reduceEq, Int.reduceAdd, Int.reduceSub, Int.reduceMul, Int.toNat_natCast, reduceCtorEq, decide_true, decide_false, IntWalk.i64_in, IntWalk.u64_in, IntWalk.u8_in, begin_, nz46, his]
  refine WP_loop (fun m a o nx => ∃ i, i ≤ N ∧ m = N - i ∧ 4 ≤ nx ∧ a 2 = .ptr (0, 2) (0, 2) 0 ∧ a 5 = .ref (1, 14) (1, 16) 0 N ∧ a 7 = .int .i64 i ∧ HS 3 1 30 o nx (a 6) (idxs (is.take i)).length (cI (idxs (is.take i))) ∧
    o (0, 2) = some (.row ⟨42, 1, (0, 2), false, true, [.int .i64 N, .int .i64 S, .int .i64 F, .sl ss.length (cS ss), .sl fs.length (cP fs)]⟩) ∧ o (1, 14) = some (.row ⟨4, 1, (1, 16), false, true, cB is⟩)) N ?_ ?_ ?_
  · omega
  · refine ⟨0, by omega, by omega, ?_⟩
    simp only [go_sem, ↓IntWalk.iteOmega, IntWalk.toNatUp, Nat.reduceEqDiff, Nat.reduceAdd, Nat.reduceMul, Nat.reduceSub, Nat.reduceLT, Nat.reduceLeDiff, Int.reduceToNat, Int.reduceLT, Int.reduceLE, Int.reduceEq, Int.reduceAdd, Int.reduceSub, Int.reduceMul, Int.toNat_natCast, reduceCtorEq, decide_true, decide_false, IntWalk.i64_in, IntWalk.u64_in, IntWalk.u8_in, List.take_zero]
    exact HS.nil
  · rintro m a o nx ⟨i, hi, rfl, hnx, h2, h5, h7, hHS, ho2, ho14⟩
    by_cases hlt : i < N
    · have hgb := cB_get (s := 1) (show i < is.length by omega)
      have hsn := idxs_snoc (show i < is.length by omega)
      have hle := idxs_le (is.take i)
      rw [List.length_take] at hle
      generalize hv : a 6 = v at hHS
      cases hb : is.getD i false with
      | true =>
        rw [hb] at hgb hsn
        rw [if_pos rfl] at hsn
        rcases hHS with ⟨rfl, e2, e3⟩ | ⟨i1, g1, rfl, hi1, hrow, hlen⟩
        · simp (disch := omega) only [go_sem, ↓IntWalk.iteOmega, IntWalk.toNatUp, Nat.reduceEqDiff, Nat.reduceAdd, Nat.reduceMul, Nat.reduceSub, Nat.reduceLT, Nat.reduceLeDiff, Int.reduceToNat, Int.reduceLT, Int.reduceLE, Int.reduceEq, Int.reduceAdd, Int.reduceSub, Int.reduceMul, Int.toNat_natCast, reduceCtorEq, decide_true, decide_false, IntWalk.i64_in, IntWalk.u64_in, IntWalk.u8_in, h2, h5, hv, h7, ho2, ho14, hgb, IntWalk.i64_in]
          have e4 : idxs (is.take i) = [] := List.length_eq_zero_iff.1 e2
          refine ⟨_, ?_, i + 1, by omega, rfl, rfl, .inr ⟨nx + 2, (nx + 2, 30), ?_, by omega, ?_, ?_⟩⟩
          · omega
          · rw [hsn, e4]; rfl
          · rw [hsn, e4]; simp [upd_app, cI]
          · rw [hsn, e4]; rfl
        · simp (disch := omega) only [go_sem, ↓IntWalk.iteOmega, IntWalk.toNatUp, Nat.reduceEqDiff, Nat.reduceAdd, Nat.reduceMul, Nat.reduceSub, Nat.reduceLT, Nat.reduceLeDiff, Int.reduceToNat, Int.reduceLT, Int.reduceLE, Int.reduceEq, Int.reduceAdd, Int.reduceSub, Int.reduceMul, Int.toNat_natCast, reduceCtorEq, decide_true, decide_false, IntWalk.i64_in, IntWalk.u64_in, IntWalk.u8_in, h2, h5, hv, h7, ho2, ho14, hgb, hrow, IntWalk.i64_in]
          refine ⟨_, ?_, i + 1, by omega, rfl, rfl, .inr ⟨i1, (nx + 2, 30), ?_, by omega, ?_, ?_⟩⟩
          · omega
          · rw [hsn, List.length_append]; rfl
          · rw [hsn, cI_app]; simp [upd_app, cI]
          · rw [cI_length, Nat.mul_one]
      | false =>
        rw [hb] at hgb hsn
        rw [if_neg (by simp), List.append_nil] at hsn
        simp (disch := omega) only [go_sem, ↓IntWalk.iteOmega, IntWalk.toNatUp, Nat.reduceEqDiff, Nat.reduceAdd, Nat.reduceMul, Nat.reduceSub, Nat.reduceLT, Nat.reduceLeDiff, Int.reduceToNat, Int.reduceLT, Int.reduceLE, Int.reduceEq, Int.reduceAdd, Int.reduceSub, Int.reduceMul, Int.toNat_natCast, reduceCtorEq, decide_true, decide_false, IntWalk.i64_in, IntWalk.u64_in, IntWalk.u8_in, h2, h5, hv, h7, ho2, ho14, hgb, IntWalk.i64_in]
        exact ⟨_, by omega, i + 1, by omega, rfl, by omega, rfl, by rw [hsn]; exact hHS.keep (fun _ _ => rfl) (by omega)⟩
    · have hie : i = N := by omega
      rw [hie, ← his, List.take_length] at hHS
      simp (disch := omega) only [go_sem, ↓IntWalk.iteOmega, IntWalk.toNatUp, Nat.reduceEqDiff, Nat.reduceAdd, Nat.reduceMul, Nat.reduceSub, Nat.reduceLT, Nat.reduceLeDiff, Int.reduceToNat, Int.reduceLT, Int.reduceLE, Int.reduceEq, Int.reduceAdd, Int.reduceSub, Int.reduceMul, Int.toNat_natCast, reduceCtorEq, decide_true, decide_false, IntWalk.i64_in, IntWalk.u64_in, IntWalk.u8_in, h2, h5, h7, ho2, ho14, rep_one, IntWalk.i64_in]
      refine WP_loop (fun m a o nx' => ∃ i cs, i ≤ fs.length ∧ m = fs.length - i ∧ NI 57 o nx' cs (rowsOf N (fs.take i)) ∧ nx + 3 ≤ nx' ∧ a 2 = .ptr (0, 2) (0, 2) 0 ∧ a 5 = .ref (1, 14) (1, 16) 0 N ∧ a 8 = .ref (nx + 1, 33) (nx + 1, 33) 0 N ∧ a 9 = .int .i64 i ∧ HS 3 1 30 o nx' (a 6) (idxs is).length (cI (idxs is)) ∧
        o (0, 2) = some (.row ⟨42, 1, (0, 2), false, true, [.int .i64 N, .int .i64 S, .int .i64 F, .sl ss.length (cS ss), .sl fs.length (cP fs)]⟩) ∧ o (1, 14) = some (.row ⟨4, 1, (1, 16), false, true, cB is⟩) ∧ o (nx + 1, 33) = some (.row ⟨26, 1, (nx + 1, 33), false, true, cs⟩)) fs.length ?_ ?_ ?_
      · omega
      · refine ⟨0, List.replicate N .nil, by omega, by omega, NI.start _ _ _ N, by omega, ?_⟩
        simp only [go_sem, ↓IntWalk.iteOmega, IntWalk.toNatUp, Nat.reduceEqDiff, Nat.reduceAdd, Nat.reduceMul, Nat.reduceSub, Nat.reduceLT, Nat.reduceLeDiff, Int.reduceToNat, Int.reduceLT, Int.reduceLE, Int.reduceEq, Int.reduceAdd, Int.reduceSub, Int.reduceMul, Int.toNat_natCast, reduceCtorEq, decide_true, decide_false, IntWalk.i64_in, IntWalk.u64_in, IntWalk.u8_in, h2, h5, ho2, ho14]
        exact hHS.keep (fun _ _ => by simp [upd_app]) (by omega)
      · clear h2 h5 h7 ho2 ho14 hHS hie
        rintro m a o nx' ⟨i, cs, hi, rfl, hNI, hnx', h2, h5, h8, h9, hHS, ho2, ho14, ho33⟩
        by_cases hlt : i < fs.length
        · obtain ⟨⟨hf0, hfN⟩, _⟩ := hw.free _ (getD_mem hlt (0, 0))
          have hat := cP_at hlt
          have htake := take_succ_getD hlt (0, 0)
          generalize fs.getD i (0, 0) = f at hf0 hfN hat htake
          obtain ⟨f, t⟩ := f
          simp only at hf0 hfN hat htake
          obtain ⟨j, rfl⟩ := Int.eq_ofNat_of_zero_le hf0
          have hrl := rowsOf_length N (fs.take i)
          have hcl : cs.length = N := by rw [hNI.1, hrl]
          have hjN : j < cs.length := by omega
          have hH := hNI.2.1 j (by omega)
          have hget := cs_get (s := 1) hjN
          have hspl : ∀ v, splice cs j [v] = cs.set j v := fun v => splice_eq cs j v hjN
          have hnext : rowsOf N (fs.take (i + 1)) = (rowsOf N (fs.take i)).set j ((rowsOf N (fs.take i)).getD j [] ++ [t]) := by rw [htake, rowsOf_snoc]; rfl
          have hjr : j < (rowsOf N (fs.take i)).length := by omega
          generalize hv : cs.getD j .nil = v at hH hget
          have hle := rowsOf_le N (fs.take i) j
          have hlt' : (fs.take i).length ≤ fs.length := by rw [List.length_take]; omega
          generalize (rowsOf N (fs.take i)).getD j [] = r at *
          rcases hH with ⟨rfl, e2, e3⟩ | ⟨i1, g, rfl, hi1, hrow, hlen⟩
          · simp (disch := omega) only [go_sem, ↓IntWalk.iteOmega, IntWalk.toNatUp, Nat.reduceEqDiff, Nat.reduceAdd, Nat.reduceMul, Nat.reduceSub, Nat.reduceLT, Nat.reduceLeDiff, Int.reduceToNat, Int.reduceLT, Int.reduceLE, Int.reduceEq, Int.reduceAdd, Int.reduceSub, Int.reduceMul, Int.toNat_natCast, reduceCtorEq, decide_true, decide_false, IntWalk.i64_in, IntWalk.u64_in, IntWalk.u8_in, nz46, h2, h5, h8, h9, ho2, ho14, ho33, hat, hget, hspl, IntWalk.i64_in]
            have e4 : r = [] := List.length_eq_zero_iff.1 e2
            refine ⟨_, ?_, i + 1, _, by omega, rfl, ?_, by omega, rfl, ?_, rfl⟩
            · omega
            · rw [hnext, e4]
              exact NI.set (l := [t]) hNI hjr rfl (by omega) (by omega) (.inl ⟨hv, by omega⟩) (fun i' _ h => by simp [upd_app, h]) (by simp [upd_app, cI])
            · exact hHS.keep (fun _ _ => by simp [upd_app]) (by omega)
          · simp (disch := omega) only [go_sem, ↓IntWalk.iteOmega, IntWalk.toNatUp, Nat.reduceEqDiff, Nat.reduceAdd, Nat.reduceMul, Nat.reduceSub, Nat.reduceLT, Nat.reduceLeDiff, Int.reduceToNat, Int.reduceLT, Int.reduceLE, Int.reduceEq, Int.reduceAdd, Int.reduceSub, Int.reduceMul, Int.toNat_natCast, reduceCtorEq, decide_true, decide_false, IntWalk.i64_in, IntWalk.u64_in, IntWalk.u8_in, nz46, h2, h5, h8, h9, ho2, ho14, ho33, hat, hget, hrow, hspl, IntWalk.i64_in]
            refine ⟨_, ?_, i + 1, _, by omega, rfl, ?_, by omega, rfl, ?_, rfl⟩
            · omega
            · rw [hnext]
              exact NI.set (l := r ++ [t]) hNI hjr (by simp) (by omega) (by omega) (.inr ⟨_, _, hv⟩) (fun i' _ h => by simp [upd_app, h]) (by simp [upd_app, cI])
            · exact hHS.keep (fun _ _ => by simp [upd_app]) (by omega)
        · have e : i = fs.length := by omega
          subst e
          rw [List.take_length] at hNI
          have hrl := rowsOf_length N fs
          have hcl : cs.length = N := by rw [hNI.1, hrl]
          have hrows := fun j (hj : j < N) x => rowsOf_mem (fs := fs) (fun p hp => (hw.free p hp).1) hj x
          have hrle := rowsOf_le N fs
          generalize rowsOf N fs = rows at *
          generalize hv : a 6 = v at hHS
          simp (disch := omega) only [go_sem, ↓IntWalk.iteOmega, IntWalk.toNatUp, Nat.reduceEqDiff, Nat.reduceAdd, Nat.reduceMul, Nat.reduceSub, Nat.reduceLT, Nat.reduceLeDiff, Int.reduceToNat, Int.reduceLT, Int.reduceLE, Int.reduceEq, Int.reduceAdd, Int.reduceSub, Int.reduceMul, Int.toNat_natCast, reduceCtorEq, decide_true, decide_false, IntWalk.i64_in, IntWalk.u64_in, IntWalk.u8_in, h2, h5, h8, h9, ho2, ho14, ho33, hv, IntWalk.i64_in]
          refine WP_loop (fun m a o nx'' => ∃ i b g l, Bfs N rows (idxs is) b l i ∧ i ≤ l.length ∧ m = N - i ∧ NI 57 o nx'' cs rows ∧ nx + 3 ≤ nx'' ∧ a 2 = .ptr (0, 2) (0, 2) 0 ∧ a 5 = .ref (1, 14) g 0 N ∧ a 8 = .ref (nx + 1, 33) (nx + 1, 33) 0 N ∧ a 11 = .int .i64 i ∧ HS 3 1 30 o nx'' (a 6) l.length (cI l) ∧
            o (1, 14) = some (.row ⟨4, 1, g, false, true, cB b⟩) ∧ o (nx + 1, 33) = some (.row ⟨26, 1, (nx + 1, 33), false, true, cs⟩)) N ?_ ?_ ?_
          · omega
          · refine ⟨0, is, (1, 16), idxs is, by rw [← his]; exact Bfs.start rows is, by omega, by omega, hNI.keep (fun _ _ => rfl) (by omega), by omega, ?_⟩
            simp only [go_sem, ↓IntWalk.iteOmega, IntWalk.toNatUp, Nat.reduceEqDiff, Nat.reduceAdd, Nat.reduceMul, Nat.reduceSub, Nat.reduceLT, Nat.reduceLeDiff, Int.reduceToNat, Int.reduceLT, Int.reduceLE, Int.reduceEq, Int.reduceAdd, Int.reduceSub, Int.reduceMul, Int.toNat_natCast, reduceCtorEq, decide_true, decide_false, IntWalk.i64_in, IntWalk.u64_in, IntWalk.u8_in, h2, h5, h8, ho14, ho33, hv]
            exact hHS.keep (fun _ _ => rfl) (by omega)
          · clear h2 h5 h8 h9 ho2 ho14 ho33 hHS hv hNI
            rintro m a o nx'' ⟨i, b, g, l, hB, hi, rfl, hNI, hnx'', h2, h5, h8, h11, hHS, ho14, ho33⟩
            have hlN : l.length ≤ N := by have := hB.cnt; omega
            by_cases hlt : i < l.length
            · generalize hv : a 6 = v at hHS
              have hHS' := hHS
              rcases hHS with ⟨_, e2, _⟩ | ⟨i1, g1, rfl, hi1, hrow, hlen⟩
              · omega
              obtain ⟨hs0, hsN⟩ := hB.ok _ (getD_mem hlt 0)
              obtain ⟨s, hs⟩ := Int.eq_ofNat_of_zero_le hs0
              have hsN : s < N := by omega
              simp (disch := omega) only [go_sem, ↓IntWalk.iteOmega, IntWalk.toNatUp, Nat.reduceEqDiff, Nat.reduceAdd, Nat.reduceMul, Nat.reduceSub, Nat.reduceLT, Nat.reduceLeDiff, Int.reduceToNat, Int.reduceLT, Int.reduceLE, Int.reduceEq, Int.reduceAdd, Int.reduceSub, Int.reduceMul, Int.toNat_natCast, reduceCtorEq, decide_true, decide_false, IntWalk.i64_in, IntWalk.u64_in, IntWalk.u8_in, h2, h5, h8, h11, ho14, ho33, hv, hrow, IntWalk.i64_in]
              refine WP_loop (fun m a o nx'' => ∃ j b g l, Bfs N rows (idxs is) b l i ∧ i < l.length ∧ l.getD i 0 = s ∧ j ≤ (rows.getD s []).length ∧ (∀ t : Nat, (t : Int) ∈ (rows.getD s []).take j → b.getD t false = true) ∧ m = (rows.getD s []).length - j ∧ NI 57 o nx'' cs rows ∧ nx + 3 ≤ nx'' ∧ a 2 = .ptr (0, 2) (0, 2) 0 ∧ a 5 = .ref (1, 14) g 0 N ∧ a 8 = .ref (nx + 1, 33) (nx + 1, 33) 0 N ∧ a 11 = .int .i64 i ∧ a 12 = .int .i64 j ∧ HS 3 1 30 o nx'' (a 6) l.length (cI l) ∧
                o (1, 14) = some (.row ⟨4, 1, g, false, true, cB b⟩) ∧ o (nx + 1, 33) = some (.row ⟨26, 1, (nx + 1, 33), false, true, cs⟩)) (rows.getD s []).length ?_ ?_ ?_
              · have := hrle s; omega
              · refine ⟨0, b, g, l, hB, hlt, hs, by omega, fun t ht => by simp at ht, by omega, hNI.keep (fun _ _ => rfl) (by omega), by omega, ?_⟩
                simp only [go_sem, ↓IntWalk.iteOmega, IntWalk.toNatUp, Nat.reduceEqDiff, Nat.reduceAdd, Nat.reduceMul, Nat.reduceSub, Nat.reduceLT, Nat.reduceLeDiff, Int.reduceToNat, Int.reduceLT, Int.reduceLE, Int.reduceEq, Int.reduceAdd, Int.reduceSub, Int.reduceMul, Int.toNat_natCast, reduceCtorEq, decide_true, decide_false, IntWalk.i64_in, IntWalk.u64_in, IntWalk.u8_in, h2, h5, h8, h11, ho14, ho33, hv]
                exact hHS'.keep (fun _ _ => rfl) (by omega)
              · clear h2 h5 h8 h11 ho14 ho33 hHS' hv hNI hrow hlen
                rintro m a o nx'' ⟨j, b, g, l, hB, hlt, hs, hj, hdn, rfl, hNI, hnx'', h2, h5, h8, h11, h12, hHS, ho14, ho33⟩
                have hlN : l.length ≤ N := by have := hB.cnt; omega
                have hbl := hB.len
                generalize hv : a 6 = v at hHS
                have hHS' := hHS
                rcases hHS with ⟨_, e2, _⟩ | ⟨i1, g1, rfl, hi1, hrow, hlen⟩
                · omega
                have hgl := cI_get (s := 1) hlt
                rw [hs] at hgl
                have hrs := hrle s
                have hH := hNI.2.1 s (by omega)
                have hget := cs_get (s := 1) (show s < cs.length by omega)
                generalize hv2 : cs.getD s .nil = v2 at hH hget
                rcases hH with ⟨rfl, e2, e3⟩ | ⟨i2, g2, rfl, hi2, hrow2, hlen2⟩
                · have : j = 0 := by omega
                  subst this
                  simp (disch := omega) only [go_sem, ↓IntWalk.iteOmega, IntWalk.toNatUp, Nat.reduceEqDiff, Nat.reduceAdd, Nat.reduceMul, Nat.reduceSub, Nat.reduceLT, Nat.reduceLeDiff, Int.reduceToNat, Int.reduceLT, Int.reduceLE, Int.reduceEq, Int.reduceAdd, Int.reduceSub, Int.reduceMul, Int.toNat_natCast, reduceCtorEq, decide_true, decide_false, IntWalk.i64_in, IntWalk.u64_in, IntWalk.u8_in, h2, h5, h8, h11, h12, ho14, ho33, hv, hrow, hgl, hget, IntWalk.i64_in]
                  have e4 : rows.getD s [] = [] := List.length_eq_zero_iff.1 e2
                  exact ⟨_, by omega, i + 1, b, g, l, hB.next hlt hs (fun t ht => by rw [e4] at ht; cases ht), by omega, rfl, hNI.keep (fun _ _ => rfl) (by omega), by omega, rfl, rfl, hHS'.keep (fun _ _ => rfl) (by omega), rfl⟩
                · by_cases hjl : j < (rows.getD s []).length
                  · have hgr := cI_get (s := 1) hjl
                    have htk := take_succ_getD hjl 0
                    have hmem := getD_mem hjl 0
                    have hmem2 := (hrows s hsN _).1 hmem
                    obtain ⟨_, ht0, htN⟩ := hw.free _ hmem2
                    obtain ⟨t, ht⟩ := Int.eq_ofNat_of_zero_le ht0
                    simp only at ht htN
                    rw [ht] at hgr htk hmem htN
                    have htN : t < N := by omega
                    have hgb := cB_get (s := 1) (show t < b.length by omega)
                    cases hbt : b.getD t false with
                    | true =>
                      rw [hbt] at hgb
                      simp (disch := omega) only [go_sem, ↓IntWalk.iteOmega, IntWalk.toNatUp, Nat.reduceEqDiff, Nat.reduceAdd, Nat.reduceMul, Nat.reduceSub, Nat.reduceLT, Nat.reduceLeDiff, Int.reduceToNat, Int.reduceLT, Int.reduceLE, Int.reduceEq, Int.reduceAdd, Int.reduceSub, Int.reduceMul, Int.toNat_natCast, reduceCtorEq, decide_true, decide_false, IntWalk.i64_in, IntWalk.u64_in, IntWalk.u8_in, h2, h5, h8, h11, h12, ho14, ho33, hv, hrow, hrow2, hgl, hget, hgr, hgb, IntWalk.i64_in]
                      refine ⟨_, ?_, j + 1, b, g, l, hB, hlt, hs, by omega, fun u hu => ?_, rfl, hNI.keep (fun _ _ => rfl) (by omega), by omega, rfl, rfl, hHS'.keep (fun _ _ => rfl) (by omega), rfl⟩
                      · omega
                      · rw [htk, List.mem_append, List.mem_singleton] at hu
                        rcases hu with hu | hu
                        · exact hdn u hu
                        · rw [show u = t by omega]; exact hbt
                    | false =>
                      rw [hbt] at hgb
                      have hset := cB_set b t true (by omega)
                      simp (disch := omega) only [go_sem, ↓IntWalk.iteOmega, IntWalk.toNatUp, Nat.reduceEqDiff, Nat.reduceAdd, Nat.reduceMul, Nat.reduceSub, Nat.reduceLT, Nat.reduceLeDiff, Int.reduceToNat, Int.reduceLT, Int.reduceLE, Int.reduceEq, Int.reduceAdd, Int.reduceSub, Int.reduceMul, Int.toNat_natCast, reduceCtorEq, decide_true, decide_false, IntWalk.i64_in, IntWalk.u64_in, IntWalk.u8_in, h2, h5, h8, h11, h12, ho14, ho33, hv, hrow, hrow2, hgl, hget, hgr, hgb, hset, IntWalk.i64_in]
                      have hgl' : (l ++ [(t : Int)]).getD i 0 = s := by rw [← hs]; simp [List.getD, List.getElem?_append_left hlt]
                      refine ⟨_, ?_, j + 1, b.set t true, g, l ++ [(t : Int)], hB.add hlt hs htN hmem hbt, by rw [List.length_append]; omega, hgl', by omega, fun u hu => ?_, rfl, hNI.keep (fun _ _ => by simp [upd_app]) (by omega), by omega, rfl, rfl, .inr ⟨i1, (nx'' + 4, 98), by rw [List.length_append]; rfl, by omega, ?_, by rw [cI_length, Nat.mul_one]⟩, rfl⟩
                      · omega
                      · rw [getD_set _ _ _ _ _ (by omega)]
                        split
                        · rfl
                        · rename_i hne
                          rw [htk, List.mem_append, List.mem_singleton] at hu
                          rcases hu with hu | hu
                          · exact hdn u hu
                          · exact absurd (show t = u by omega) hne
                      · rw [cI_app]; simp [upd_app, cI]
                  · simp (disch := omega) only [go_sem, ↓IntWalk.iteOmega, IntWalk.toNatUp, Nat.reduceEqDiff, Nat.reduceAdd, Nat.reduceMul, Nat.reduceSub, Nat.reduceLT, Nat.reduceLeDiff, Int.reduceToNat, Int.reduceLT, Int.reduceLE, Int.reduceEq, Int.reduceAdd, Int.reduceSub, Int.reduceMul, Int.toNat_natCast, reduceCtorEq, decide_true, decide_false, IntWalk.i64_in, IntWalk.u64_in, IntWalk.u8_in, h2, h5, h8, h11, h12, ho14, ho33, hv, hrow, hrow2, hgl, hget, IntWalk.i64_in]
                    have hje : j = (rows.getD s []).length := by omega
                    rw [hje, List.take_length] at hdn
                    exact ⟨_, by omega, i + 1, b, g, l, hB.next hlt hs hdn, by omega, rfl, hNI.keep (fun _ _ => rfl) (by omega), by omega, rfl, rfl, hHS'.keep (fun _ _ => rfl) (by omega), rfl⟩
            · have hie : i = l.length := by omega
              subst hie
              rw [← hB.finish]
              have hall : (cB b).take N = cB b := by rw [← hB.len]; exact cB_all b
              have hbl := hB.len
              generalize hv : a 6 = v at hHS
              rcases hHS with ⟨rfl, e2, _⟩ | ⟨i1, g1, rfl, hi1, hrow, hlen⟩
              · simp (disch := omega) only [go_sem, ↓IntWalk.iteOmega, IntWalk.toNatUp, Nat.reduceEqDiff, Nat.reduceAdd, Nat.reduceMul, Nat.reduceSub, Nat.reduceLT, Nat.reduceLeDiff, Int.reduceToNat, Int.reduceLT, Int.reduceLE, Int.reduceEq, Int.reduceAdd, Int.reduceSub, Int.reduceMul, Int.toNat_natCast, reduceCtorEq, decide_true, decide_false, IntWalk.i64_in, IntWalk.u64_in, IntWalk.u8_in, h2, h5, h8, h11, ho14, ho33, hv, hbl, hall, IntWalk.i64_in]
                rw [slB, hbl]
              · simp (disch := omega) only [go_sem, ↓IntWalk.iteOmega, IntWalk.toNatUp, Nat.reduceEqDiff, Nat.reduceAdd, Nat.reduceMul, Nat.reduceSub, Nat.reduceLT, Nat.reduceLeDiff, Int.reduceToNat, Int.reduceLT, Int.reduceLE, Int.reduceEq, Int.reduceAdd, Int.reduceSub, Int.reduceMul, Int.toNat_natCast, reduceCtorEq, decide_true, decide_false, IntWalk.i64_in, IntWalk.u64_in, IntWalk.u8_in, h2, h5, h8, h11, ho14, ho33, hv, hbl, hall, IntWalk.i64_in]
                rw [slB, hbl]
theorem look46 (X) : lookedAt (EX md0 X) nz46 2 Tryd.f50 = true := by kernel_rfl
theorem closed_ok (N : Nat) (S F : Int) (ss fs) (hw : Wf N S F ss fs) (is : List Bool) (his : is.length = N) : Ok Tryd.prog 50 [nfaV N S F ss fs, slB is] (slB (closeB N (rowsOf N fs) (idxs is))) := by
  refine ok_of_WP (E := EX md0 (fun _ _ => none)) (cr := noR) (tab_nil _) (noR_ok _) mixed (k := N + fs.length + 2) Tryd.func50 (look46 _) rfl (WP_mono (closed_wp _ _ _ _ N S F ss fs hw is his (by omega)) ?_)
  rintro u a o nx ⟨rfl, h⟩
  exact ⟨.inr rfl, h⟩
end Go.Proofs.YtbapebepmbikhaaDoor.A
/- The document's Close, Begin, Step, Run: contracts. -/
namespace Go.Proofs.YtbapebepmbikhaaDoor.A
open Go
set_option maxRecDepth 20000
/-! ### in -/
def R42 (args : List AV) (r : AV) : Prop := ∃ (N S F s : Int) (ss : List (Int × Int × Int)) (fs : List (Int × Int)), args = [nfaV N S F ss fs, .int .i64 s] ∧ r = .bool (decide (0 ≤ s ∧ s < N))
theorem R42_fn : Fun1 R42 := by
  rintro args r r' ⟨N, S, F, s, ss, fs, rfl, rfl⟩ ⟨N', S', F', s', ss', fs', h, rfl⟩
  simp only [nfaV, List.cons.injEq, AV.agg.injEq, AV.int.injEq, AV.sl.injEq, true_and, and_true] at h
  obtain ⟨⟨h1, _⟩, h2⟩ := h
  rw [h1, h2]
/-! ### closed, List as relations -/
theorem slB_inj {x y : List Bool} (h : slB x = slB y) : x = y := by
  unfold slB at h; injection h with _ h; exact cB_inj h
def R46 (args : List AV) (r : AV) : Prop := ∃ (N : Nat) (S F : Int) (ss : List (Int × Int × Int)) (fs : List (Int × Int)) (is : List Bool), Wf N S F ss fs ∧ is.length = N ∧ args = [nfaV N S F ss fs, slB is] ∧ r = slB (closeB N (rowsOf N fs) (idxs is))
theorem R46_fn : Fun1 R46 := by
  rintro args r r' ⟨N, S, F, ss, fs, is, _, _, rfl, rfl⟩ ⟨N', S', F', ss', fs', is', _, _, h, rfl⟩
  simp only [nfaV, List.cons.injEq, AV.agg.injEq, AV.int.injEq, AV.sl.injEq, true_and, and_true] at h
  obtain ⟨⟨h1, _, _, _, _, h2⟩, _, h3⟩ := h
  have h1 : N = N' := by omega
  rw [h1, cP_inj h2, cB_inj h3]
theorem R46_ok (args r) (h : R46 args r) : Ok Tryd.prog 50 args r := by
  obtain ⟨N, S, F, ss, fs, is, h1, h2, rfl, rfl⟩ := h
  exact closed_ok N S F ss fs h1 is h2
def R45 (args : List AV) (r : AV) : Prop := ∃ b : List Bool, b.length ≤ 100000 ∧ args = [slB b] ∧ r = slI (idxs b)
theorem R45_fn : Fun1 R45 := by
  rintro args r r' ⟨b, _, rfl, rfl⟩ ⟨b', _, h, rfl⟩
  simp only [List.cons.injEq, AV.sl.injEq, and_true] at h
  rw [cB_inj h.2]
theorem idxs_mem_marks {N : Nat} {l : List Int} (h : ∀ x ∈ l, 0 ≤ x ∧ x < (N : Int)) (s : Nat) : (s : Int) ∈ idxs (marks N l) ↔ (s : Int) ∈ l := by
  rw [mem_idxs, ← marks_get N l h s]
  exact ⟨fun ⟨t, ht, hb⟩ => by rwa [show s = t by omega], fun hb => ⟨s, rfl, hb⟩⟩
theorem close_marks {N : Nat} {rows : List (List Int)} {l : List Int} (h : ∀ x ∈ l, 0 ≤ x ∧ x < (N : Int)) : closeB N rows (idxs (marks N l)) = closeB N rows l := closeB_congr fun s _ => idxs_mem_marks h s

noncomputable def X29 : FuncId → List AV → Option AV := tabLook [(50, tRel R46)]
theorem X29_ok : CPSound Tryd.prog X29 := tab_cons (tab_nil _) (tRel_ok R46_ok)
theorem X29_46 {N : Nat} {S F : Int} {ss fs} (hw : Wf N S F ss fs) (is : List Bool) (h : is.length = N) : X29 50 [nfaV N S F ss fs, .sl N (cB is)] = some (slB (closeB N (rowsOf N fs) (idxs is))) := by
  show tRel R46 _ = _
  exact tRel_eq R46_fn ⟨N, S, F, ss, fs, is, hw, h, by rw [slB, h], rfl⟩
/-! ### Close -/
def inN (N : Nat) (x : Int) : Bool := decide (0 ≤ x ∧ x < (N : Int))
/-! ### Begin, Step, Run -/
theorem look43 (X) : lookedAt (EX md0 X) (fun _ => none) 1 Tryd.f39 = true := by kernel_rfl
theorem begin_ok (N : Nat) (S F : Int) (ss) (fs : List (Int × Int)) (hw : Wf N S F ss fs) : Ok Tryd.prog 39 [nfaV N S F ss fs] (slB (closeB N (rowsOf N fs) [S])) := by
  refine ok_of_WP (E := EX md0 X29) (cr := noR) X29_ok (noR_ok _) mixed (k := 0) Tryd.func39 (look43 _) rfl ?_
  have hN := hw.n
  have hS := hw.s
  obtain ⟨S, rfl⟩ := Int.eq_ofNat_of_zero_le hS.1
  have hset := cB_set (List.replicate N false) S true (by simp; omega)
  have hm : (List.replicate N false).set S true = marks N [(S : Int)] := rfl
  rw [hm] at hset
  have hml := marks_length N [(S : Int)]
  have h46 := X29_46 hw (marks N [(S : Int)]) hml
  have hall : (cB (marks N [(S : Int)])).take N = cB (marks N [(S : Int)]) := take_len (by rw [cB_length]; exact hml)
  rw [close_marks (fun x hx => by rw [List.mem_singleton.1 hx]; exact hS)] at h46
  simp only [Tryd.f39, Option.getD_some]
  simp (disch := omega) only [go_sem, ↓IntWalk.iteOmega, IntWalk.toNatUp, Nat.reduceEqDiff, Nat.reduceAdd, Nat.reduceMul, Nat.reduceSub, Nat.reduceLT, Nat.reduceLeDiff, Int.reduceToNat, Int.reduceLT, Int.reduceLE, Int.reduceEq, Int.reduceAdd, Int.reduceSub, Int.reduceMul, Int.toNat_natCast, reduceCtorEq, decide_true, decide_false, IntWalk.i64_in, IntWalk.u64_in, IntWalk.u8_in, rep_bool, hset, hml, h46, hall]
theorem look44 (X) : lookedAt (EX md0 X) (fun _ => none) 3 Tryd.f40 = true := by kernel_rfl
theorem step_ok (N : Nat) (S F : Int) (ss) (fs : List (Int × Int)) (hw : Wf N S F ss fs) (b : List Bool) (hb : b.length = N) (m : Int) : Ok Tryd.prog 40 [nfaV N S F ss fs, slB b, .int .i64 m] (slB (stepB N (rowsOf N fs) ss b m)) := by
  refine ok_of_WP (E := EX md0 X29) (cr := noR) X29_ok (noR_ok _) mixed (k := ss.length + 1) Tryd.func40 (look44 _) rfl ?_
  have hN := hw.n
  have hls := hw.ls
  have h46 := X29_46 hw
  simp only [Tryd.f40, Option.getD_some]
  simp (disch := omega) only [go_sem, ↓IntWalk.iteOmega, IntWalk.toNatUp, Nat.reduceEqDiff, Nat.reduceAdd, Nat.reduceMul, Nat.reduceSub, Nat.reduceLT, Nat.reduceLeDiff, Int.reduceToNat, Int.reduceLT, Int.reduceLE, Int.reduceEq, Int.reduceAdd, Int.reduceSub, Int.reduceMul, Int.toNat_natCast, reduceCtorEq, decide_true, decide_false, IntWalk.i64_in, IntWalk.u64_in, IntWalk.u8_in, rep_bool]
  refine WP_loop (fun v a o nx => ∃ i, i ≤ ss.length ∧ v = ss.length - i ∧ 2 ≤ nx ∧ a 1 = slB b ∧ a 2 = .int .i64 m ∧ a 3 = .ptr (0, 3) (0, 3) 0 ∧ a 7 = .ref (1, 12) (1, 12) 0 N ∧ a 8 = .int .i64 i ∧
    o (0, 3) = some (.row ⟨42, 1, (0, 3), false, true, [.int .i64 N, .int .i64 S, .int .i64 F, .sl ss.length (cS ss), .sl fs.length (cP fs)]⟩) ∧ o (1, 12) = some (.row ⟨4, 1, (1, 12), false, true, cB (marks N (nextOf (ss.take i) b m))⟩)) ss.length ?_ ?_ ?_
  · omega
  · refine ⟨0, by omega, by omega, by omega, ?_⟩
    simp (disch := omega) only [go_sem, ↓IntWalk.iteOmega, IntWalk.toNatUp, Nat.reduceEqDiff, Nat.reduceAdd, Nat.reduceMul, Nat.reduceSub, Nat.reduceLT, Nat.reduceLeDiff, Int.reduceToNat, Int.reduceLT, Int.reduceLE, Int.reduceEq, Int.reduceAdd, Int.reduceSub, Int.reduceMul, Int.toNat_natCast, reduceCtorEq, decide_true, decide_false, IntWalk.i64_in, IntWalk.u64_in, IntWalk.u8_in, List.take_zero]
    rfl
  · rintro v a o nx ⟨i, hi, rfl, hnx, h1, h2, h3, h7, h8, ho3, ho12⟩
    have hml := marks_length N (nextOf (ss.take i) b m)
    by_cases hlt : i < ss.length
    · have hat := cS_at hlt
      obtain ⟨⟨q1, q2⟩, q3, q4⟩ := hw.steps _ (getD_mem hlt (0, 0, 0))
      have htk := take_succ_getD hlt (0, 0, 0)
      generalize ss.getD i (0, 0, 0) = p at hat q1 q2 q3 q4 htk
      obtain ⟨f, t, set⟩ := p
      simp only at hat q1 q2 q3 q4
      obtain ⟨f, rfl⟩ := Int.eq_ofNat_of_zero_le q1
      obtain ⟨t, rfl⟩ := Int.eq_ofNat_of_zero_le q3
      have hgb := cB_get (s := 1) (show f < b.length by omega)
      have hsn : nextOf (ss.take (i + 1)) b m = nextOf (ss.take i) b m ++ (if leads b m (↑f, ↑t, set) then [(t : Int)] else []) := by rw [htk, nextOf_snoc]
      have hld : leads b m (↑f, ↑t, set) = (b.getD f false && (decide (0 ≤ m) && decide (m < 5) && hasMode set m)) := rfl
      have hset := cB_set (marks N (nextOf (ss.take i) b m)) t true (by omega)
      by_cases hm0 : 0 ≤ m
      · by_cases hm5 : m < 5
        · rw [decide_eq_true hm0, decide_eq_true hm5] at hld
          cases hbf : b.getD f false with
          | false =>
            rw [hbf] at hgb hld
            rw [hld] at hsn
            simp only [Bool.false_and, Bool.false_eq_true, if_false, List.append_nil] at hsn
            simp (disch := omega) only [go_sem, ↓IntWalk.iteOmega, IntWalk.toNatUp, Nat.reduceEqDiff, Nat.reduceAdd, Nat.reduceMul, Nat.reduceSub, Nat.reduceLT, Nat.reduceLeDiff, Int.reduceToNat, Int.reduceLT, Int.reduceLE, Int.reduceEq, Int.reduceAdd, Int.reduceSub, Int.reduceMul, Int.toNat_natCast, reduceCtorEq, decide_true, decide_false, IntWalk.i64_in, IntWalk.u64_in, IntWalk.u8_in, h1, h2, h3, h7, h8, ho3, ho12, hat, hgb]
            exact ⟨_, by omega, i + 1, by omega, rfl, rfl, by rw [hsn]⟩
          | true =>
            rw [hbf] at hgb hld
            rw [hld] at hsn
            cases hm : hasMode set m with
            | true =>
              rw [hm] at hsn
              simp only [hasMode, decide_eq_true_eq] at hm
              simp only [Bool.and_self, if_true] at hsn
              simp (disch := omega) only [go_sem, ↓IntWalk.iteOmega, IntWalk.toNatUp, Nat.reduceEqDiff, Nat.reduceAdd, Nat.reduceMul, Nat.reduceSub, Nat.reduceLT, Nat.reduceLeDiff, Int.reduceToNat, Int.reduceLT, Int.reduceLE, Int.reduceEq, Int.reduceAdd, Int.reduceSub, Int.reduceMul, Int.toNat_natCast, reduceCtorEq, decide_true, decide_false, IntWalk.i64_in, IntWalk.u64_in, IntWalk.u8_in, h1, h2, h3, h7, h8, ho3, ho12, hat, hgb, hm, hml, hset]
              exact ⟨_, by omega, i + 1, by omega, rfl, rfl, by rw [hsn, marks_snoc]; rfl⟩
            | false =>
              rw [hm] at hsn
              simp only [hasMode, decide_eq_false_iff_not] at hm
              simp only [Bool.and_self, Bool.and_false, Bool.false_eq_true, if_false, List.append_nil] at hsn
              simp (disch := omega) only [go_sem, ↓IntWalk.iteOmega, IntWalk.toNatUp, Nat.reduceEqDiff, Nat.reduceAdd, Nat.reduceMul, Nat.reduceSub, Nat.reduceLT, Nat.reduceLeDiff, Int.reduceToNat, Int.reduceLT, Int.reduceLE, Int.reduceEq, Int.reduceAdd, Int.reduceSub, Int.reduceMul, Int.toNat_natCast, reduceCtorEq, decide_true, decide_false, IntWalk.i64_in, IntWalk.u64_in, IntWalk.u8_in, h1, h2, h3, h7, h8, ho3, ho12, hat, hgb, hm]
              exact ⟨_, by omega, i + 1, by omega, rfl, rfl, by rw [hsn]⟩
        · rw [hld, decide_eq_false hm5] at hsn
          simp only [Bool.and_false, Bool.false_and, Bool.false_eq_true, if_false, List.append_nil] at hsn
          simp (disch := omega) only [go_sem, ↓IntWalk.iteOmega, IntWalk.toNatUp, Nat.reduceEqDiff, Nat.reduceAdd, Nat.reduceMul, Nat.reduceSub, Nat.reduceLT, Nat.reduceLeDiff, Int.reduceToNat, Int.reduceLT, Int.reduceLE, Int.reduceEq, Int.reduceAdd, Int.reduceSub, Int.reduceMul, Int.toNat_natCast, reduceCtorEq, decide_true, decide_false, IntWalk.i64_in, IntWalk.u64_in, IntWalk.u8_in, h1, h2, h3, h7, h8, ho3, ho12, hat]
          exact ⟨_, by omega, i + 1, by omega, rfl, rfl, by rw [hsn]⟩
      · rw [hld, decide_eq_false hm0] at hsn
        simp only [Bool.and_false, Bool.false_and, Bool.false_eq_true, if_false, List.append_nil] at hsn
        simp (disch := omega) only [go_sem, ↓IntWalk.iteOmega, IntWalk.toNatUp, Nat.reduceEqDiff, Nat.reduceAdd, Nat.reduceMul, Nat.reduceSub, Nat.reduceLT, Nat.reduceLeDiff, Int.reduceToNat, Int.reduceLT, Int.reduceLE, Int.reduceEq, Int.reduceAdd, Int.reduceSub, Int.reduceMul, Int.toNat_natCast, reduceCtorEq, decide_true, decide_false, IntWalk.i64_in, IntWalk.u64_in, IntWalk.u8_in, h1, h2, h3, h7, h8, ho3, ho12, hat]
        exact ⟨_, by omega, i + 1, by omega, rfl, rfl, by rw [hsn]⟩
    · have hie : i = ss.length := by omega
      rw [hie, List.take_length] at ho12 hml
      have hin : ∀ x ∈ nextOf ss b m, 0 ≤ x ∧ x < (N : Int) := fun x hx => by
        obtain ⟨p, hp, rfl⟩ := List.mem_map.1 hx
        exact (hw.steps p (List.mem_filter.1 hp).1).2
      have h46' := h46 _ hml
      rw [close_marks hin] at h46'
      have hall : (cB (marks N (nextOf ss b m))).take N = cB (marks N (nextOf ss b m)) := take_len (by rw [cB_length]; exact hml)
      simp (disch := omega) only [go_sem, ↓IntWalk.iteOmega, IntWalk.toNatUp, Nat.reduceEqDiff, Nat.reduceAdd, Nat.reduceMul, Nat.reduceSub, Nat.reduceLT, Nat.reduceLeDiff, Int.reduceToNat, Int.reduceLT, Int.reduceLE, Int.reduceEq, Int.reduceAdd, Int.reduceSub, Int.reduceMul, Int.toNat_natCast, reduceCtorEq, decide_true, decide_false, IntWalk.i64_in, IntWalk.u64_in, IntWalk.u8_in, h1, h2, h3, h7, h8, ho3, ho12, h46', hall, hml]
      rfl
end Go.Proofs.YtbapebepmbikhaaDoor.A
/- Words of numbers. -/
namespace Go.Proofs.YtbapebepmbikhaaDoor.A
open Go
set_option maxRecDepth 20000
/-! ### words -/
def wordOf (ns : List Int) (most few : Int) : List Int := (ns.take most.toNat).map fun x => x % (1 + few % 5)
theorem lookWord (X) : lookedAt (EX md0 X) (fun _ => none) 3 Tryd.f18 = true := by kernel_rfl
theorem word_ok (ns : List Int) (most few : Int) (hm : 0 ≤ most ∧ most ≤ 1000) : Ok Tryd.prog 18 [slI ns, .int .i64 most, .int .i64 few] (slI (wordOf ns most few)) := by
  obtain ⟨most, rfl⟩ := Int.eq_ofNat_of_zero_le hm.1
  refine ok_of_WP (E := EX md0 (tabLook [(33, tRel RW)])) (cr := noR) (tab_cons (tab_nil _) (tRel_ok within1_ok)) (noR_ok _) mixed (k := most + 1) Tryd.func18 (lookWord _) rfl ?_
  have h37 : ∀ a n : Int, 0 < n → n ≤ 1000000 → tabLook [(33, tRel RW)] 33 [.int .i64 a, .int .i64 n] = some (.int .i64 (a % n)) := fun a n h1 h2 => rw_eq h1 h2
  have hf0 := Int.emod_nonneg few (show (5 : Int) ≠ 0 by decide)
  have hf5 := Int.emod_lt_of_pos few (show (0 : Int) < 5 by decide)
  simp only [Tryd.f18, Option.getD_some]
  simp (disch := omega) only [go_sem, ↓IntWalk.iteOmega, IntWalk.toNatUp, Nat.reduceEqDiff, Nat.reduceAdd, Nat.reduceMul, Nat.reduceSub, Nat.reduceLT, Nat.reduceLeDiff, Int.reduceToNat, Int.reduceLT, Int.reduceLE, Int.reduceEq, Int.reduceAdd, Int.reduceSub, Int.reduceMul, Int.toNat_natCast, reduceCtorEq, decide_true, decide_false, IntWalk.i64_in, IntWalk.u64_in, IntWalk.u8_in]
  refine WP_loop (fun m a o nx => ∃ i, i ≤ ns.length ∧ i ≤ most ∧ m = most - i ∧ a 0 = slI ns ∧ a 1 = .int .i64 most ∧ a 2 = .int .i64 few ∧ a 8 = .int .i64 i ∧ HS 3 1 30 o nx (a 7) i (cI ((ns.take i).map fun x => x % (1 + few % 5)))) most ?_ ?_ ?_
  · omega
  · refine ⟨0, by omega, by omega, by omega, ?_⟩
    simp (disch := omega) only [go_sem, ↓IntWalk.iteOmega, IntWalk.toNatUp, Nat.reduceEqDiff, Nat.reduceAdd, Nat.reduceMul, Nat.reduceSub, Nat.reduceLT, Nat.reduceLeDiff, Int.reduceToNat, Int.reduceLT, Int.reduceLE, Int.reduceEq, Int.reduceAdd, Int.reduceSub, Int.reduceMul, Int.toNat_natCast, reduceCtorEq, decide_true, decide_false, IntWalk.i64_in, IntWalk.u64_in, IntWalk.u8_in, List.take_zero]
    exact HS.nil
  · rintro m a o nx ⟨i, hi, him, rfl, h0, h1, h2, h8, hHS⟩
    by_cases hlt : i < ns.length
    · by_cases hlm : i < most
      · have hg := cI_get (s := 1) hlt
        have htk := take_succ_getD hlt 0
        generalize ns.getD i 0 = x at hg htk
        generalize hv : a 7 = v at hHS
        rcases hHS with ⟨rfl, e2, e3⟩ | ⟨i1, g1, rfl, hi1, hrow, hlen⟩
        · simp (disch := omega) only [go_sem, ↓IntWalk.iteOmega, IntWalk.toNatUp, Nat.reduceEqDiff, Nat.reduceAdd, Nat.reduceMul, Nat.reduceSub, Nat.reduceLT, Nat.reduceLeDiff, Int.reduceToNat, Int.reduceLT, Int.reduceLE, Int.reduceEq, Int.reduceAdd, Int.reduceSub, Int.reduceMul, Int.toNat_natCast, reduceCtorEq, decide_true, decide_false, IntWalk.i64_in, IntWalk.u64_in, IntWalk.u8_in, h0, h1, h2, h8, hv, hg, h37]
          have e4 : (ns.take i).map (fun x => x % (1 + few % 5)) = [] := cI_inj e3
          refine ⟨_, ?_, i + 1, by omega, by omega, rfl, rfl, .inr ⟨nx + 1, (nx + 1, 30), ?_, by omega, ?_, ?_⟩⟩
          · omega
          · rw [e2]
          · rw [htk, List.map_append, e4]; simp [upd_app, cI]
          · rw [htk, List.map_append, e4, e2]; rfl
        · have hall : (cI ((ns.take i).map fun x => x % (1 + few % 5))).take i = cI ((ns.take i).map fun x => x % (1 + few % 5)) := take_len (by rw [hlen, Nat.mul_one])
          rw [Nat.mul_one] at hlen
          simp (disch := omega) only [go_sem, ↓IntWalk.iteOmega, IntWalk.toNatUp, Nat.reduceEqDiff, Nat.reduceAdd, Nat.reduceMul, Nat.reduceSub, Nat.reduceLT, Nat.reduceLeDiff, Int.reduceToNat, Int.reduceLT, Int.reduceLE, Int.reduceEq, Int.reduceAdd, Int.reduceSub, Int.reduceMul, Int.toNat_natCast, reduceCtorEq, decide_true, decide_false, IntWalk.i64_in, IntWalk.u64_in, IntWalk.u8_in, h0, h1, h2, h8, hv, hg, hrow, h37, hlen, hall]
          refine ⟨_, ?_, i + 1, by omega, by omega, rfl, rfl, .inr ⟨i1, (nx + 1, 30), rfl, by omega, ?_, ?_⟩⟩
          · omega
          · rw [htk, List.map_append, cI_app]; simp [upd_app, cI]
          · rw [htk, List.map_append, cI_app, List.length_append, hlen]; simp [cI]
      · have hie : i = most := by omega
        have hvw := hHS.view 11
        rw [view_cI] at hvw
        simp (disch := omega) only [go_sem, ↓IntWalk.iteOmega, IntWalk.toNatUp, Nat.reduceEqDiff, Nat.reduceAdd, Nat.reduceMul, Nat.reduceSub, Nat.reduceLT, Nat.reduceLeDiff, Int.reduceToNat, Int.reduceLT, Int.reduceLE, Int.reduceEq, Int.reduceAdd, Int.reduceSub, Int.reduceMul, Int.toNat_natCast, reduceCtorEq, decide_true, decide_false, IntWalk.i64_in, IntWalk.u64_in, IntWalk.u8_in, h0, h1, h2, h8, hvw]
        have e : ((ns.take i).map fun x => x % (1 + few % 5)) = wordOf ns most few := by rw [hie]; rfl
        rw [e]
        have : (wordOf ns most few).length = i := by rw [wordOf, List.length_map, List.length_take, Int.toNat_natCast]; omega
        rw [slI, this]
    · have hie : i = ns.length := by omega
      have hvw := hHS.view 11
      rw [view_cI] at hvw
      simp (disch := omega) only [go_sem, ↓IntWalk.iteOmega, IntWalk.toNatUp, Nat.reduceEqDiff, Nat.reduceAdd, Nat.reduceMul, Nat.reduceSub, Nat.reduceLT, Nat.reduceLeDiff, Int.reduceToNat, Int.reduceLT, Int.reduceLE, Int.reduceEq, Int.reduceAdd, Int.reduceSub, Int.reduceMul, Int.toNat_natCast, reduceCtorEq, decide_true, decide_false, IntWalk.i64_in, IntWalk.u64_in, IntWalk.u8_in, h0, h1, h2, h8, hvw]
      have e : ((ns.take i).map fun x => x % (1 + few % 5)) = wordOf ns most few := by rw [wordOf, Int.toNat_natCast, List.take_of_length_le (by omega), List.take_of_length_le (by omega)]
      rw [e]
      have : (wordOf ns most few).length = i := by rw [wordOf, List.length_map, List.length_take, Int.toNat_natCast]; omega
      rw [slI, this]

def RWord (args : List AV) (r : AV) : Prop := ∃ (ns : List Int) (most few : Int), (0 ≤ most ∧ most ≤ 1000) ∧ args = [slI ns, .int .i64 most, .int .i64 few] ∧ r = slI (wordOf ns most few)
theorem RWord_fn : Fun1 RWord := by
  rintro args r r' ⟨a, b, c, _, rfl, rfl⟩ ⟨a', b', c', _, h, rfl⟩
  simp only [List.cons.injEq, AV.int.injEq, AV.sl.injEq, true_and, and_true] at h
  obtain ⟨⟨_, h1⟩, h2, h3⟩ := h
  rw [cI_inj h1, h2, h3]
theorem RWord_ok (args r) (h : RWord args r) : Ok Tryd.prog 18 args r := by obtain ⟨a, b, c, h, rfl, rfl⟩ := h; exact word_ok a b c h
theorem wordOf_le (ns : List Int) (most few : Int) : (wordOf ns most few).length ≤ most.toNat := by rw [wordOf, List.length_map, List.length_take]; omega
end Go.Proofs.YtbapebepmbikhaaDoor.A
/- The document's Run; words, rows held against each other: contracts. -/
namespace Go.Proofs.YtbapebepmbikhaaDoor.A
open Go
set_option maxRecDepth 20000
/-! ### the document's Run -/
def R43 (args : List AV) (r : AV) : Prop := ∃ (N : Nat) (S F : Int) (ss : List (Int × Int × Int)) (fs : List (Int × Int)), Wf N S F ss fs ∧ args = [nfaV N S F ss fs] ∧ r = slB (closeB N (rowsOf N fs) [S])
theorem nfaV_inj {N S F N' S' F' : Int} {ss ss' : List (Int × Int × Int)} {fs fs' : List (Int × Int)} (h : nfaV N S F ss fs = nfaV N' S' F' ss' fs') : N = N' ∧ S = S' ∧ F = F' ∧ ss = ss' ∧ fs = fs' := by
  simp only [nfaV, List.cons.injEq, AV.agg.injEq, AV.int.injEq, AV.sl.injEq, true_and, and_true] at h
  obtain ⟨h1, h2, h3, ⟨_, h4⟩, _, h5⟩ := h
  exact ⟨h1, h2, h3, cS_inj h4, cP_inj h5⟩
theorem R43_fn : Fun1 R43 := by
  rintro args r r' ⟨N, S, F, ss, fs, _, rfl, rfl⟩ ⟨N', S', F', ss', fs', _, h, rfl⟩
  simp only [List.cons.injEq, and_true] at h
  obtain ⟨h1, h2, h3, h4, h5⟩ := nfaV_inj h
  have h1 : N = N' := by omega
  rw [h1, h2, h5]
theorem R43_ok (args r) (h : R43 args r) : Ok Tryd.prog 39 args r := by
  obtain ⟨N, S, F, ss, fs, h1, rfl, rfl⟩ := h
  exact begin_ok N S F ss fs h1
def R44 (args : List AV) (r : AV) : Prop := ∃ (N : Nat) (S F : Int) (ss : List (Int × Int × Int)) (fs : List (Int × Int)) (b : List Bool) (m : Int), Wf N S F ss fs ∧ b.length = N ∧ args = [nfaV N S F ss fs, slB b, .int .i64 m] ∧ r = slB (stepB N (rowsOf N fs) ss b m)
theorem R44_fn : Fun1 R44 := by
  rintro args r r' ⟨N, S, F, ss, fs, b, m, _, _, rfl, rfl⟩ ⟨N', S', F', ss', fs', b', m', _, _, h, rfl⟩
  simp only [List.cons.injEq, and_true, AV.int.injEq, true_and] at h
  obtain ⟨h1, h2, h3, h4, h5⟩ := nfaV_inj h.1
  have h1 : N = N' := by omega
  rw [h1, h4, h5, slB_inj h.2.1, h.2.2]
theorem R44_ok (args r) (h : R44 args r) : Ok Tryd.prog 40 args r := by
  obtain ⟨N, S, F, ss, fs, b, m, h1, h2, rfl, rfl⟩ := h
  exact step_ok N S F ss fs h1 b h2 m
noncomputable def X26 : FuncId → List AV → Option AV := tabLook [(39, tRel R43), (40, tRel R44)]
theorem X26_ok : CPSound Tryd.prog X26 := tab_cons (tab_cons (tab_nil _) (tRel_ok R44_ok)) (tRel_ok R43_ok)
theorem X26_43 {N : Nat} {S F : Int} {ss fs} (hw : Wf N S F ss fs) : X26 39 [nfaV N S F ss fs] = some (slB (closeB N (rowsOf N fs) [S])) := by
  show tRel R43 _ = _
  exact tRel_eq R43_fn ⟨N, S, F, ss, fs, hw, rfl, rfl⟩
theorem X26_44 {N : Nat} {S F : Int} {ss fs} (hw : Wf N S F ss fs) (b : List Bool) (hb : b.length = N) (m : Int) : X26 40 [nfaV N S F ss fs, slB b, .int .i64 m] = some (slB (stepB N (rowsOf N fs) ss b m)) := by
  show tRel R44 _ = _
  exact tRel_eq R44_fn ⟨N, S, F, ss, fs, b, m, hw, hb, rfl, rfl⟩
theorem look26 (X) : lookedAt (EX md0 X) (fun _ => none) 2 Tryd.f31 = true := by kernel_rfl
theorem refRun_ok (N : Nat) (S F : Int) (ss) (fs : List (Int × Int)) (hw : Wf N S F ss fs) (w : List Int) (hlw : w.length ≤ 1000000) : Ok Tryd.prog 31 [nfaV N S F ss fs, slI w] (.bool (runB N S F ss fs w)) := by
  refine ok_of_WP (E := EX md0 X26) (cr := noR) X26_ok (noR_ok _) mixed (k := w.length + 1) Tryd.func31 (look26 _) rfl ?_
  have h43 := X26_43 hw
  have hF := hw.f
  obtain ⟨F, rfl⟩ := Int.eq_ofNat_of_zero_le hF.1
  simp only [Tryd.f31, Option.getD_some]
  simp (disch := omega) only [go_sem, ↓IntWalk.iteOmega, IntWalk.toNatUp, Nat.reduceEqDiff, Nat.reduceAdd, Nat.reduceMul, Nat.reduceSub, Nat.reduceLT, Nat.reduceLeDiff, Int.reduceToNat, Int.reduceLT, Int.reduceLE, Int.reduceEq, Int.reduceAdd, Int.reduceSub, Int.reduceMul, Int.toNat_natCast, reduceCtorEq, decide_true, decide_false, IntWalk.i64_in, IntWalk.u64_in, IntWalk.u8_in, h43]
  refine WP_loop (fun m a o nx => ∃ i, i ≤ w.length ∧ m = w.length - i ∧ 2 ≤ nx ∧ a 1 = slI w ∧ a 2 = .ptr (0, 2) (0, 2) 0 ∧ a 5 = slB (setB N S ss fs (w.take i)) ∧ a 6 = .int .i64 i ∧
    o (0, 2) = some (.row ⟨42, 1, (0, 2), false, true, [.int .i64 N, .int .i64 S, .int .i64 F, .sl ss.length (cS ss), .sl fs.length (cP fs)]⟩)) w.length ?_ ?_ ?_
  · omega
  · refine ⟨0, by omega, by omega, by omega, ?_⟩
    simp (disch := omega) only [go_sem, ↓IntWalk.iteOmega, IntWalk.toNatUp, Nat.reduceEqDiff, Nat.reduceAdd, Nat.reduceMul, Nat.reduceSub, Nat.reduceLT, Nat.reduceLeDiff, Int.reduceToNat, Int.reduceLT, Int.reduceLE, Int.reduceEq, Int.reduceAdd, Int.reduceSub, Int.reduceMul, Int.toNat_natCast, reduceCtorEq, decide_true, decide_false, IntWalk.i64_in, IntWalk.u64_in, IntWalk.u8_in, List.take_zero]
    rfl
  · rintro m a o nx ⟨i, hi, rfl, hnx, h1, h2, h5, h6, ho2⟩
    by_cases hlt : i < w.length
    · have hg := cI_get (s := 1) hlt
      have htk := take_succ_getD hlt 0
      generalize w.getD i 0 = x at hg htk
      have h44 := X26_44 hw (setB N S ss fs (w.take i)) (setB_length _ _ _ _ _) x
      simp (disch := omega) only [go_sem, ↓IntWalk.iteOmega, IntWalk.toNatUp, Nat.reduceEqDiff, Nat.reduceAdd, Nat.reduceMul, Nat.reduceSub, Nat.reduceLT, Nat.reduceLeDiff, Int.reduceToNat, Int.reduceLT, Int.reduceLE, Int.reduceEq, Int.reduceAdd, Int.reduceSub, Int.reduceMul, Int.toNat_natCast, reduceCtorEq, decide_true, decide_false, IntWalk.i64_in, IntWalk.u64_in, IntWalk.u8_in, h1, h2, h5, h6, ho2, hg, h44]
      exact ⟨_, by omega, i + 1, by omega, rfl, by rw [htk, setB_snoc], rfl⟩
    · have hie : i = w.length := by omega
      rw [hie, List.take_length] at h5
      have hbl := setB_length N S ss fs w
      have hgb := cB_get (s := 1) (show F < (setB N S ss fs w).length by omega)
      simp (disch := omega) only [go_sem, ↓IntWalk.iteOmega, IntWalk.toNatUp, Nat.reduceEqDiff, Nat.reduceAdd, Nat.reduceMul, Nat.reduceSub, Nat.reduceLT, Nat.reduceLeDiff, Int.reduceToNat, Int.reduceLT, Int.reduceLE, Int.reduceEq, Int.reduceAdd, Int.reduceSub, Int.reduceMul, Int.toNat_natCast, reduceCtorEq, decide_true, decide_false, IntWalk.i64_in, IntWalk.u64_in, IntWalk.u8_in, h1, h2, h5, h6, ho2, hgb, hbl]
      rfl

end Go.Proofs.YtbapebepmbikhaaDoor.A
/- A, part 31: contracts on the caller's memory, as relations. -/
namespace Go.Proofs.YtbapebepmbikhaaDoor.A
open Go
abbrev RRel := List AV → AH → AV → AH → Prop
open Classical in
noncomputable def cRel (R : RRel) (args : List AV) (H : AH) : Option (AV × AH) := if h : ∃ p : AV × AH, R args H p.1 p.2 then some h.choose else none
theorem cRel_some {R : RRel} {args H v H'} (h : cRel R args H = some (v, H')) : R args H v H' := by
  unfold cRel at h
  split at h
  · rename_i e
    have := e.choose_spec
    injection h with h
    rw [h] at this
    exact this
  · cases h
theorem cRel_call {R : RRel} {args : List AV} {H : AH} {K : AV × AH → Prop} (h1 : ∃ v H', R args H v H') (h2 : ∀ v H', R args H v H' → K (v, H')) : wO (Option.map (fun p => freezeR false p.1 p.2) (cRel R args H)) K := by
  obtain ⟨v, H', h⟩ := h1
  have e : ∃ p : AV × AH, R args H p.1 p.2 := ⟨(v, H'), h⟩
  have e2 : cRel R args H = some e.choose := by unfold cRel; rw [dif_pos e]
  rw [e2]
  exact h2 _ _ e.choose_spec
theorem runPR_of_WP {E : Env} {cr : CallR} {k : Nat} {nz : Nat → Option (List (Nat × Nat))} {fn : Func} {c : Code} {args : List AV} {o : Ob} {nx : Nat} {Post : AV → Ob → Nat → Prop} (hb : fn.body = some c)
    (h : WP E cr k nz c (begin_ args) o nx (fun u a o' nx' => (u = .normal ∨ u = .ret) ∧ wO (resultsL E.P a ⟨o', nx'⟩ fn.results.toList) (fun vs => Post (tup1 vs) o' nx'))) :
    ∃ v H', runP E cr k nz fn args ⟨o, nx⟩ = some (v, H') ∧ Post v H'.o H'.nx := by
  unfold WP at h
  unfold runP
  rw [hb]
  dsimp only
  cases he : evalP E (fun _ _ => none) cr k nz none c (begin_ args) ⟨o, nx⟩ with
  | none => rw [he] at h; exact h.elim
  | some p =>
    obtain ⟨u, a, H⟩ := p
    rw [he] at h
    obtain ⟨hu, h⟩ := h
    obtain ⟨vs, h1, h2⟩ : ∃ vs, resultsL E.P a H fn.results.toList = some vs ∧ Post (tup1 vs) H.o H.nx := by
      unfold wO at h
      split at h
      · rename_i vs e; exact ⟨vs, e, h⟩
      · exact h.elim
    rcases hu with rfl | rfl
    · dsimp only
      refine ⟨tup1 vs, H, ?_, h2⟩
      show (resultsL E.P a H fn.results.toList).map _ = _
      rw [show resultsL E.P a H fn.results.toList = some vs from h1]; rfl
    · dsimp only
      refine ⟨tup1 vs, H, ?_, h2⟩
      show (resultsL E.P a H fn.results.toList).map _ = _
      rw [show resultsL E.P a H fn.results.toList = some vs from h1]; rfl
theorem okR_of_WP {E : Env} {cr : CallR} (hX : CPSound E.P E.ext) (hR : CRSound E.P cr ∧ Up cr) (hm : E.P.follows .mixedOrders = true) {k : Nat} {nz : Nat → Option (List (Nat × Nat))} {fn : Func} {f : FuncId} {args : List AV} {o : Ob} {nx : Nat} {Post : AV → Ob → Nat → Prop} (hf : E.P.funcs[f]? = some fn)
    (hl : lookedAt E nz args.length fn = true) (hb : fn.body = some (fn.body.getD .skip))
    (h : WP E cr k nz (fn.body.getD .skip) (begin_ args) o nx (fun u a o' nx' => (u = .normal ∨ u = .ret) ∧ wO (resultsL E.P a ⟨o', nx'⟩ fn.results.toList) (fun vs => Post (tup1 vs) o' nx'))) : ∃ v H', OkR E.P f args ⟨o, nx⟩ v H' ∧ Post v H'.o H'.nx := by
  obtain ⟨v, H', h1, h2⟩ := runPR_of_WP hb h
  exact ⟨v, H', okR_run hX hR.1 hR.2 hm hf hl h1, h2⟩
end Go.Proofs.YtbapebepmbikhaaDoor.A
/- A, part 32: loops, round by round. -/
namespace Go.Proofs.YtbapebepmbikhaaDoor.A
open Go
section
variable (E : Env) (cr : CallR) (k : Nat) (nz : Nat → Option (List (Nat × Nat)))
/-- A loop of n rounds at most. -/
def WPL (n : Nat) (c : Code) (a : AAct) (o : Ob) (nx : Nat) (Q : WPost) : Prop :=
  match iter (evalP E (fun _ _ => none) cr k nz none c) n a ⟨o, nx⟩ with
  | some (u, a', H') => Q u a' H'.o H'.nx
  | none => False
def loopQ (n : Nat) (c : Code) (Q : WPost) : WPost := fun u a o nx => match u with
  | .normal => WPL E cr k nz n c a o nx Q
  | u => Q u a o nx
end
section
variable {E : Env} {cr : CallR} {k : Nat} {nz : Nat → Option (List (Nat × Nat))}
theorem loopQ_normal (n c) (Q : WPost) (a o nx) : loopQ E cr k nz n c Q .normal a o nx = WPL E cr k nz n c a o nx Q := rfl
theorem loopQ_ret (n c) (Q : WPost) (a o nx) : loopQ E cr k nz n c Q .ret a o nx = Q .ret a o nx := rfl
theorem loopQ_exit (n c) (Q : WPost) (i a o nx) : loopQ E cr k nz n c Q (.exit i) a o nx = Q (.exit i) a o nx := rfl
theorem loopQ_goto (n c) (Q : WPost) (i a o nx) : loopQ E cr k nz n c Q (.goto i) a o nx = Q (.goto i) a o nx := rfl
theorem WPL_succ (n : Nat) (c : Code) (a o nx) (Q : WPost) : WPL E cr k nz (n + 1) c a o nx Q = WP E cr k nz c a o nx (loopQ E cr k nz n c Q) := by
  unfold WPL WP
  simp only [iter]
  cases evalP E (fun _ _ => none) cr k nz none c a ⟨o, nx⟩ with
  | none => rfl
  | some p =>
    obtain ⟨u, a', H'⟩ := p
    cases u <;> rfl
theorem WP_loop_eq (c : Code) (a o nx) (Q : WPost) : WP E cr k nz (.loop c) a o nx Q = WPL E cr k nz k c a o nx Q := by
  unfold WPL WP
  simp only [evalP]
  all_goals rfl
end
end Go.Proofs.YtbapebepmbikhaaDoor.A
/- Machines of one way out of machines of many: sets of states, met in order. No program stands here. -/
namespace Go.Proofs.YtbapebepmbikhaaDoor.A
open Go
section
variable {T : Type} [DecidableEq T] (f : T → Nat → T)
def metS (S : List T) (t : T) : List T := if t ∈ S then S else S ++ [t]
/-- What the first m modes lead to: the sets that are met by then, their numbers. -/
def rowS (x : T) : Nat → List T → List T × List Nat
  | 0, S => (S, [])
  | m + 1, S => (metS (rowS x m S).1 (f x m), (rowS x m S).2 ++ [(rowS x m S).1.idxOf (f x m)])
def bfsS (cap : Nat) : Nat → Nat → List T → List Nat → Option (List T × List Nat)
  | 0, _, _, _ => none
  | k + 1, i, S, R => match S[i]? with
    | none => some (S, R)
    | some x => if cap < (rowS f x 5 S).1.length then none else bfsS cap k (i + 1) (rowS f x 5 S).1 (R ++ (rowS f x 5 S).2)
variable {f}
theorem pre_get {α : Type} {l l' : List α} (h : l <+: l') {k : Nat} {y : α} (hk : l[k]? = some y) : l'[k]? = some y := by
  obtain ⟨t, rfl⟩ := h
  rw [List.getElem?_append_left (List.getElem?_eq_some_iff.1 hk).1]
  exact hk
theorem metS_in (S : List T) (t : T) (h : t ∈ S) : metS S t = S := if_pos h
theorem metS_out (S : List T) (t : T) (h : t ∉ S) : metS S t = S ++ [t] := if_neg h
theorem metS_pre (S : List T) (t : T) : S <+: metS S t := by
  unfold metS
  split
  · exact List.prefix_refl _
  · exact List.prefix_append _ _
theorem metS_nodup {S : List T} {t : T} (h : S.Nodup) : (metS S t).Nodup := by
  unfold metS
  split
  · exact h
  · rename_i hn
    rw [List.nodup_append]
    exact ⟨h, by simp, fun a ha b hb => by rw [List.mem_singleton.1 hb]; exact fun e => hn (e ▸ ha)⟩
theorem metS_mem (S : List T) (t : T) : t ∈ metS S t := by
  unfold metS
  split
  · assumption
  · simp
theorem metS_len (S : List T) (t : T) : (metS S t).length = max S.length (S.idxOf t + 1) := by
  unfold metS
  by_cases h : t ∈ S
  · rw [if_pos h]
    have := List.idxOf_lt_length_of_mem h
    omega
  · rw [if_neg h, List.length_append, List.idxOf_eq_length h]
    simp
theorem metS_get (S : List T) (t : T) : (metS S t)[S.idxOf t]? = some t := by
  unfold metS
  by_cases h : t ∈ S
  · rw [if_pos h]
    have := List.idxOf_lt_length_of_mem h
    rw [List.getElem?_eq_getElem this, List.getElem_idxOf this]
  · rw [if_neg h, List.idxOf_eq_length h]
    simp
theorem idxOf_le (S : List T) (t : T) : S.idxOf t ≤ S.length := List.idxOf_le_length
theorem rowS_len (x : T) (m S) : (rowS f x m S).2.length = m := by
  induction m with
  | zero => rfl
  | succ m ih => simp [rowS, ih]
theorem rowS_pre (x : T) (m S) : S <+: (rowS f x m S).1 := by
  induction m with
  | zero => exact List.prefix_refl _
  | succ m ih => exact ih.trans (metS_pre _ _)
theorem rowS_pre' (x : T) (S) {m n : Nat} (h : m ≤ n) : (rowS f x m S).1 <+: (rowS f x n S).1 := by
  induction n with
  | zero => rw [Nat.le_zero.1 h]; exact List.prefix_refl _
  | succ n ih =>
    by_cases e : m = n + 1
    · rw [e]; exact List.prefix_refl _
    · exact (ih (by omega)).trans (metS_pre _ _)
theorem rowS_nodup (x : T) (m) {S} (h : S.Nodup) : (rowS f x m S).1.Nodup := by
  induction m with
  | zero => exact h
  | succ m ih => exact metS_nodup ih
theorem rowS_all (p : T → Prop) (x : T) (hf : ∀ m, p (f x m)) (m) {S : List T} (h : ∀ y ∈ S, p y) : ∀ y ∈ (rowS f x m S).1, p y := by
  induction m with
  | zero => exact h
  | succ m ih =>
    intro y hy
    simp only [rowS, metS] at hy
    split at hy
    · exact ih y hy
    · rcases List.mem_append.1 hy with hy | hy
      · exact ih y hy
      · rw [List.mem_singleton.1 hy]; exact hf m
theorem rowS_take (x : T) (S) {m n : Nat} (h : m ≤ n) : (rowS f x n S).2.take m = (rowS f x m S).2 := by
  induction n with
  | zero => rw [Nat.le_zero.1 h]; rfl
  | succ n ih =>
    by_cases e : m = n + 1
    · rw [e]; exact List.take_of_length_le (by rw [rowS_len]; exact Nat.le_refl _)
    · have hl : (rowS f x n S).2.length = n := rowS_len x n S
      simp only [rowS]
      rw [List.take_append_of_le_length (by omega), ih (by omega)]
/-- Each number of a row is that of the set that the mode leads to. -/
theorem rowS_get (x : T) (S) {m j : Nat} (h : j < m) : ∃ k, (rowS f x m S).2[j]? = some k ∧ k = (rowS f x j S).1.idxOf (f x j) ∧ (rowS f x m S).1[k]? = some (f x j) := by
  have h1 : (rowS f x m S).2[j]? = some ((rowS f x j S).1.idxOf (f x j)) := by
    have := rowS_take (f := f) x S (show j + 1 ≤ m by omega)
    have h2 : ((rowS f x m S).2.take (j + 1))[j]? = (rowS f x m S).2[j]? := by rw [List.getElem?_take]; simp
    rw [← h2, this]
    simp [rowS, rowS_len]
  refine ⟨_, h1, rfl, ?_⟩
  have hp := rowS_pre' (f := f) x S (show j + 1 ≤ m by omega)
  have hg := metS_get (rowS f x j S).1 (f x j)
  exact pre_get hp hg
/-- What has been met so far is one more than the greatest number. -/
theorem rowS_most (x : T) (S : List T) (m : Nat) (hS : 1 ≤ S.length) : (rowS f x m S).1.length = (rowS f x m S).2.foldl max (S.length - 1) + 1 := by
  induction m with
  | zero => simp [rowS]; omega
  | succ m ih =>
    simp only [rowS, List.foldl_append, List.foldl_cons, List.foldl_nil, metS_len]
    omega
end
theorem most_le (l : List Nat) (a : Nat) : a ≤ l.foldl max a := by
  induction l generalizing a with
  | nil => exact Nat.le_refl _
  | cons x l ih => exact Nat.le_trans (Nat.le_max_left _ _) (ih _)
theorem most_mem {l : List Nat} {a q k : Nat} (h : l[q]? = some k) : k ≤ l.foldl max a := by
  induction l generalizing a q with
  | nil => cases h
  | cons x l ih =>
    cases q with
    | zero =>
      injection h with h
      subst h
      exact Nat.le_trans (Nat.le_max_right _ _) (most_le _ _)
    | succ q => exact ih (q := q) (by simpa using h)
section
variable {T : Type}
/-- Some rounds of the walk over what was met. -/
structure MidS (f : T → Nat → T) (t0 : T) (i : Nat) (S : List T) (R : List Nat) : Prop where
  nodup : S.Nodup
  head : S[0]? = some t0
  le : i ≤ S.length
  len : R.length = 5 * i
  leads : ∀ j m, j < i → m < 5 → ∃ x k, S[j]? = some x ∧ R[5 * j + m]? = some k ∧ S[k]? = some (f x m)
  most : S.length = R.foldl max 0 + 1
  met : ∀ q k, R[q]? = some k → k ≤ (R.take q).foldl max 0 + 1
  seen : ∀ j, j < i → j ≤ (R.take (5 * j)).foldl max 0
variable {f : T → Nat → T}
theorem MidS.start (t0 : T) : MidS f t0 0 [t0] [] where
  nodup := by simp
  head := rfl
  le := by simp
  len := rfl
  leads := fun j m h => absurd h (by omega)
  most := rfl
  met := fun q k h => by cases h
  seen := fun j h => absurd h (by omega)
end
section
variable {T : Type} [DecidableEq T]
variable {f : T → Nat → T}
theorem MidS.next {t0 : T} {i : Nat} {S : List T} {R : List Nat} (h : MidS f t0 i S R) {x : T} (hx : S[i]? = some x) : MidS f t0 (i + 1) (rowS f x 5 S).1 (R ++ (rowS f x 5 S).2) := by
  have hpre := rowS_pre (f := f) x 5 S
  have hlt : i < S.length := by
    by_cases hc : i < S.length
    · exact hc
    · rw [List.getElem?_eq_none (by omega)] at hx; cases hx
  have hpl := hpre.length_le
  have hrl : (rowS f x 5 S).2.length = 5 := rowS_len x 5 S
  have hm : S.length - 1 = R.foldl max 0 := by have := h.most; omega
  have keep : ∀ {k : Nat} {y : T}, S[k]? = some y → (rowS f x 5 S).1[k]? = some y := fun hk => pre_get hpre hk
  refine ⟨rowS_nodup x 5 h.nodup, keep h.head, by omega, by rw [List.length_append, h.len, hrl]; omega, fun j m hj hm5 => ?_, ?_, fun q k hq => ?_, fun j hj => ?_⟩
  · by_cases e : j < i
    · obtain ⟨y, k, h1, h2, h3⟩ := h.leads j m e hm5
      exact ⟨y, k, keep h1, by rw [List.getElem?_append_left (by rw [h.len]; omega)]; exact h2, keep h3⟩
    · have : j = i := by omega
      subst this
      obtain ⟨k, h1, _, h2⟩ := rowS_get (f := f) x S hm5
      exact ⟨x, k, keep hx, by rw [List.getElem?_append_right (by rw [h.len]; omega), h.len]; simpa using h1, h2⟩
  · have := rowS_most (f := f) x S 5 (by omega)
    rw [this, hm, List.foldl_append]
  · by_cases e : q < R.length
    · rw [List.getElem?_append_left e] at hq
      rw [List.take_append_of_le_length (by omega)]
      exact h.met q k hq
    · rw [List.getElem?_append_right (by omega)] at hq
      obtain ⟨j, rfl⟩ : ∃ j, q = R.length + j := ⟨q - R.length, by omega⟩
      rw [Nat.add_sub_cancel_left] at hq
      have hj5 : j < 5 := by
        by_cases hc : j < 5
        · exact hc
        · rw [List.getElem?_eq_none (by omega)] at hq; cases hq
      obtain ⟨k', h1, h2, _⟩ := rowS_get (f := f) x S hj5
      rw [h1] at hq
      injection hq with hq
      subst hq
      rw [List.take_length_add_append, rowS_take x S (by omega : j ≤ 5), List.foldl_append, ← hm]
      have := rowS_most (f := f) x S j (by omega)
      have := idxOf_le (rowS f x j S).1 (f x j)
      omega
  · by_cases e : j < i
    · rw [List.take_append_of_le_length (by rw [h.len]; omega)]
      exact h.seen j e
    · have : j = i := by omega
      subst this
      rw [← h.len, List.take_left' rfl]
      omega
theorem bfsS_succ (cap k i : Nat) (S : List T) (R : List Nat) : bfsS f cap (k + 1) i S R = match S[i]? with
    | none => some (S, R)
    | some x => if cap < (rowS f x 5 S).1.length then none else bfsS f cap k (i + 1) (rowS f x 5 S).1 (R ++ (rowS f x 5 S).2) := rfl
theorem bfsS_mid {t0 : T} {cap : Nat} : ∀ {k i : Nat} {S : List T} {R : List Nat} {S' R'}, MidS f t0 i S R → bfsS f cap k i S R = some (S', R') → MidS f t0 S'.length S' R'
  | 0, _, _, _, _, _, _, h => by cases h
  | k + 1, i, S, R, S', R', hm, h => by
    rw [bfsS_succ] at h
    cases hx : S[i]? with
    | none =>
      rw [hx] at h
      injection h with h
      injection h with h1 h2
      subst h1 h2
      have hle := hm.le
      have hge := List.getElem?_eq_none_iff.1 hx
      have : i = S.length := by omega
      rw [← this]
      exact hm
    | some x =>
      rw [hx] at h
      dsimp only at h
      split at h
      · cases h
      · exact bfsS_mid (hm.next hx) h
theorem bfsS_cap {cap : Nat} : ∀ {k i : Nat} {S : List T} {R : List Nat} {S' R'}, S.length ≤ cap → bfsS f cap k i S R = some (S', R') →
    S.length ≤ S'.length ∧ S'.length ≤ cap ∧ ∀ c, (S'.length ≤ c → bfsS f c k i S R = some (S', R')) ∧ (c < S'.length → S.length ≤ c → bfsS f c k i S R = none)
  | 0, _, _, _, _, _, _, h => by cases h
  | k + 1, i, S, R, S', R', hS, h => by
    rw [bfsS_succ] at h
    cases hx : S[i]? with
    | none =>
      rw [hx] at h
      injection h with h
      injection h with h1 h2
      subst h1 h2
      refine ⟨Nat.le_refl _, hS, fun c => ⟨fun _ => ?_, fun h1 h2 => absurd h1 (by omega)⟩⟩
      rw [bfsS_succ, hx]
    | some x =>
      rw [hx] at h
      dsimp only at h
      split at h
      · cases h
      · rename_i hc
        have hp := (rowS_pre (f := f) x 5 S).length_le
        obtain ⟨h1, h2, h3⟩ := bfsS_cap (by omega) h
        refine ⟨by omega, h2, fun c => ⟨fun hh => ?_, fun hh hh2 => ?_⟩⟩
        · rw [bfsS_succ, hx]
          dsimp only
          rw [if_neg (by omega)]
          exact (h3 c).1 hh
        · rw [bfsS_succ, hx]
          dsimp only
          split
          · rfl
          · exact (h3 c).2 hh (by omega)
/-- Among few sets none is too much. -/
theorem bfsS_some {cap : Nat} (p : T → Prop) (hf : ∀ x m, p x → p (f x m)) (hp : ∀ S : List T, S.Nodup → (∀ y ∈ S, p y) → S.length ≤ cap) : ∀ {k i : Nat} {S : List T} {R : List Nat}, S.Nodup → (∀ y ∈ S, p y) → i ≤ S.length → cap < k + i → ∃ S' R', bfsS f cap k i S R = some (S', R') ∧ ∀ y ∈ S', p y
  | 0, i, S, R, hn, ha, hi, hk => by
    have := hp S hn ha
    omega
  | k + 1, i, S, R, hn, ha, hi, hk => by
    rw [bfsS_succ]
    cases hx : S[i]? with
    | none => exact ⟨S, R, rfl, ha⟩
    | some x =>
      dsimp only
      have hxp := ha x (List.mem_of_getElem? hx)
      have hn' := rowS_nodup (f := f) x 5 hn
      have ha' := rowS_all (f := f) p x (fun m => hf x m hxp) 5 ha
      rw [if_neg (by have := hp _ hn' ha'; omega)]
      have hlt := (List.getElem?_eq_some_iff.1 hx).1
      have hpl := (rowS_pre (f := f) x 5 S).length_le
      exact bfsS_some p hf hp hn' ha' (by omega) (by omega)
theorem bfsS_all {cap : Nat} (p : T → Prop) (hf : ∀ x m, p x → p (f x m)) : ∀ {k i : Nat} {S : List T} {R : List Nat} {S' R'}, (∀ y ∈ S, p y) → bfsS f cap k i S R = some (S', R') → ∀ y ∈ S', p y
  | 0, _, _, _, _, _, _, h => by cases h
  | k + 1, i, S, R, S', R', ha, h => by
    rw [bfsS_succ] at h
    cases hx : S[i]? with
    | none =>
      rw [hx] at h
      injection h with h
      injection h with h1 h2
      subst h1
      exact ha
    | some x =>
      rw [hx] at h
      dsimp only at h
      split at h
      · cases h
      · exact bfsS_all p hf (rowS_all (f := f) p x (fun m => hf x m (ha x (List.mem_of_getElem? hx))) 5 ha) h
end
theorem bools_le : ∀ (n : Nat) (S : List (List Bool)), S.Nodup → (∀ b ∈ S, b.length = n) → S.length ≤ 2 ^ n
  | 0, S, hn, h => by
    match S, hn, h with
    | [], _, _ => simp
    | [_], _, _ => simp
    | a :: b :: l, hn, h =>
      have e1 : a = [] := List.length_eq_zero_iff.1 (h a (by simp))
      have e2 : b = [] := List.length_eq_zero_iff.1 (h b (by simp))
      subst e1 e2
      simp at hn
  | n + 1, S, hn, h => by
    have hc := List.length_eq_countP_add_countP (fun b : List Bool => b.headD false) (l := S)
    have key : ∀ (q : List Bool → Bool) (v : Bool), (∀ b, q b = true → b.headD false = v) → S.countP q ≤ 2 ^ n := fun q v hq => by
      rw [List.countP_eq_length_filter]
      have := bools_le n ((S.filter q).map List.tail) (by
        unfold List.Nodup
        rw [List.pairwise_map]
        refine List.Pairwise.imp_of_mem ?_ (hn.filter q)
        intro a b ha hb hab he
        have ha1 := List.mem_filter.1 ha
        have hb1 := List.mem_filter.1 hb
        have la := h a ha1.1
        have lb := h b hb1.1
        have va := hq a ha1.2
        have vb := hq b hb1.2
        match a, b, la, lb, va, vb, he with
        | x :: a, y :: b, _, _, va, vb, he =>
          simp only [List.headD_cons, List.tail_cons] at va vb he
          exact hab (by rw [va, vb, he])) (fun b hb => by
        obtain ⟨c, hc, rfl⟩ := List.mem_map.1 hb
        rw [List.length_tail, h c (List.mem_filter.1 hc).1]
        rfl)
      simpa using this
    have h1 := key (fun b => b.headD false) true (fun b hb => hb)
    have h2 := key (fun b => decide (¬ b.headD false = true)) false (fun b hb => by simpa using hb)
    rw [Nat.pow_succ]
    omega
end Go.Proofs.YtbapebepmbikhaaDoor.A
/- Machines of one way out of machines of many: names of sets. No program stands here but in what is imported. -/
namespace Go.Proofs.YtbapebepmbikhaaDoor.A
open Go
/-- A number's digits (below a thousand). -/
def itoaS (n : Nat) : List UInt8 := if n < 10 then [UInt8.ofNat (48 + n)] else if n < 100 then [UInt8.ofNat (48 + n / 10), UInt8.ofNat (48 + n % 10)] else [UInt8.ofNat (48 + n / 100), UInt8.ofNat (48 + n / 10 % 10), UInt8.ofNat (48 + n % 10)]
def deI (l : List UInt8) : Nat := l.foldl (fun a c => 10 * a + (c.toNat - 48)) 0
theorem deI_all : ((List.range 1000).all fun n => decide (deI (itoaS n) = n)) = true := by decide +kernel
theorem no32_all : ((List.range 1000).all fun n => decide ((32 : UInt8) ∉ itoaS n)) = true := by decide +kernel
theorem deI_itoa {n : Nat} (h : n < 1000) : deI (itoaS n) = n := by
  have := List.all_eq_true.1 deI_all n (List.mem_range.2 h)
  exact of_decide_eq_true this
theorem no32 {n : Nat} (h : n < 1000) : (32 : UInt8) ∉ itoaS n := by
  have := List.all_eq_true.1 no32_all n (List.mem_range.2 h)
  exact of_decide_eq_true this
def nameS (l : List Int) : List UInt8 := l.flatMap fun x => itoaS x.toNat ++ [32]
theorem nameS_snoc (l : List Int) (x : Int) : nameS (l ++ [x]) = nameS l ++ itoaS x.toNat ++ [32] := by simp [nameS]
theorem split32 {x : UInt8} : ∀ {a b u v : List UInt8}, x ∉ a → x ∉ b → a ++ x :: u = b ++ x :: v → a = b ∧ u = v
  | [], [], _, _, _, _, h => ⟨rfl, by simpa using h⟩
  | [], c :: b, _, _, _, hb, h => by
    simp only [List.nil_append, List.cons_append, List.cons.injEq] at h
    exact absurd (h.1 ▸ List.mem_cons_self ..) hb
  | c :: a, [], _, _, ha, _, h => by
    simp only [List.nil_append, List.cons_append, List.cons.injEq] at h
    exact absurd (h.1 ▸ List.mem_cons_self ..) ha
  | c :: a, d :: b, u, v, ha, hb, h => by
    simp only [List.cons_append, List.cons.injEq] at h
    obtain ⟨h1, h2⟩ := split32 (fun hm => ha (List.mem_cons_of_mem _ hm)) (fun hm => hb (List.mem_cons_of_mem _ hm)) h.2
    exact ⟨by rw [h.1, h1], h2⟩
theorem nameS_inj : ∀ {l l' : List Int}, (∀ x ∈ l, 0 ≤ x ∧ x < 1000) → (∀ x ∈ l', 0 ≤ x ∧ x < 1000) → nameS l = nameS l' → l = l'
  | [], [], _, _, _ => rfl
  | [], y :: l', _, _, h => by simp [nameS] at h
  | x :: l, [], _, _, h => by simp [nameS] at h
  | x :: l, y :: l', h1, h2, h => by
    have hx := h1 x (List.mem_cons_self ..)
    have hy := h2 y (List.mem_cons_self ..)
    have e : itoaS x.toNat ++ 32 :: nameS l = itoaS y.toNat ++ 32 :: nameS l' := by simpa [nameS] using h
    obtain ⟨e1, e2⟩ := split32 (x := 32) (no32 (by omega)) (no32 (by omega)) e
    have e3 : x.toNat = y.toNat := by rw [← deI_itoa (n := x.toNat) (by omega), e1, deI_itoa (by omega)]
    rw [nameS_inj (fun z hz => h1 z (List.mem_cons_of_mem _ hz)) (fun z hz => h2 z (List.mem_cons_of_mem _ hz)) e2, show x = y by omega]
theorem idxs_inj {a b : List Bool} (hl : a.length = b.length) (h : idxs a = idxs b) : a = b := by
  rw [← marks_idxs a, ← marks_idxs b, hl, h]
def nm (b : List Bool) : AV := .str (nameS (idxs b))
def knownFrom (n : Nat) (S : List (List Bool)) : List (AV × AV) := (S.zipIdx n).map fun p => (nm p.1, .int .i64 p.2)
abbrev knownS (S : List (List Bool)) : List (AV × AV) := knownFrom 0 S
theorem knownFrom_snoc (n S b) : knownFrom n (S ++ [b]) = knownFrom n S ++ [(nm b, .int .i64 ((n + S.length : Nat) : Int))] := by
  unfold knownFrom
  rw [List.zipIdx_append]
  simp
theorem eqKey_nm {N : Nat} (hN : N ≤ 1000) {a b : List Bool} (ha : a.length = N) (hb : b.length = N) : eqKey (nm a) (nm b) = some (decide (a = b)) := by
  have : (nameS (idxs a) == nameS (idxs b)) = decide (a = b) := by
    rw [Bool.eq_iff_iff, beq_iff_eq, decide_eq_true_iff]
    refine ⟨fun h => idxs_inj (by omega) (nameS_inj (fun x hx => ?_) (fun x hx => ?_) h), fun h => by rw [h]⟩
    · have := idxs_in hx; omega
    · have := idxs_in hx; omega
  unfold nm eqKey
  exact congrArg some this
theorem findA_known {N : Nat} (hN : N ≤ 1000) {t : List Bool} (ht : t.length = N) : ∀ {S : List (List Bool)} {n : Nat}, (∀ b ∈ S, b.length = N) → findA (nm t) (knownFrom n S) = some (if t ∈ S then some (.int .i64 ((n + S.idxOf t : Nat) : Int)) else none)
  | [], n, _ => rfl
  | b :: S, n, h => by
    have ih := findA_known hN ht (S := S) (n := n + 1) (fun c hc => h c (List.mem_cons_of_mem _ hc))
    have he := eqKey_nm hN ht (h b (List.mem_cons_self ..))
    have hcons : knownFrom n (b :: S) = (nm b, .int .i64 (n : Int)) :: knownFrom (n + 1) S := by simp [knownFrom, List.zipIdx_cons]
    rw [hcons]
    simp only [findA, he, ih]
    by_cases hb : t = b
    · subst hb
      rw [decide_eq_true (rfl : t = t), if_pos (List.mem_cons_self ..), List.idxOf_cons_self]
      rfl
    · have hb' : ¬ b = t := fun e => hb e.symm
      have hi : (b :: S).idxOf t = S.idxOf t + 1 := by
        rw [List.idxOf_cons, beq_false_of_ne hb']
        rfl
      simp only [hb, decide_false, hi, List.mem_cons, false_or]
      rw [show n + 1 + S.idxOf t = n + (S.idxOf t + 1) by omega]
theorem putA_known {N : Nat} (hN : N ≤ 1000) {t : List Bool} (ht : t.length = N) {S : List (List Bool)} (h : ∀ b ∈ S, b.length = N) (hn : t ∉ S) : putA (nm t) (.int .i64 (S.length : Int)) (knownS S) = knownS (metS S t) := by
  have hf := findA_known hN ht (n := 0) h
  rw [if_neg hn] at hf
  rw [(findA_none hf).2, metS_out S t hn]
  unfold knownS
  rw [knownFrom_snoc, Nat.zero_add]
end Go.Proofs.YtbapebepmbikhaaDoor.A
/- A, part 33: a law's row that lists variables, from its contract. -/
namespace Go.Proofs.YtbapebepmbikhaaDoor.A
open Go Go.ChangeShapes
theorem laidMetH_plain {P : Program} {L : List (String × DataW Unit)} (h : (L.filter fun x => x.2.handleName?.isSome) = []) (w : World) : laidMetH P L w = laidMet P L w := by
  unfold laidMetH
  rw [h]
theorem law_laid {H : Type} {enc : TypeId × Value → H} {as_ : Assume} {C : Checked} {os : Os} {f : FuncId} {fn : Func} {s : ChangeSpec} {conds : List PathCond} {apart fresh handsOn again : Bool} {L : List (String × DataW Unit)} (hnoh : (L.filter fun x => x.2.handleName?.isSome) = [])
    (own : ownKnob C.prog.godebug = none) (started : os.Started) (noInit : C.prog.inits.idxOf? f = none) (hfn : C.prog.funcs[f]? = some fn)
    (witness : ∃ (w : World) (tape : Tape) (i : Input), w.os = os ∧ (w.forCall tape i).Shaped C.prog ∧ i.vars = [] ∧ Input.okWide C.prog (w.forCall tape i) .any w.heap.size f i ∧
      ((s.pre enc C.prog fn conds apart (w.forCall tape i).memory i.args ∧ laidMetH C.prog L (w.forCall tape i).memory) ∧ sizedMet enc C.prog fn (OpenSpec.ofChange s) apart (w.forCall tape i).memory i.args) ∧ as_.holds C.prog (lone (Frame.enter C.prog f i.args .normal) [] (w.forCall tape i)))
    (hl : laidOutB C.prog = true) {ks : List TypeId} (hk : dataTypes C.prog ks = true) (hks : fn.params.toList.all (fun t => ks.contains t && C.prog.readableRec t && decide (t < C.prog.types.size)) = true)
    {tb : TypeId} (hr : fn.resultTypes = #[tb]) (htb : C.prog.underlying tb = some .bool) (hv : s.vars = [])
    (hspec : ∀ ds : List (DataW H), ds.length = fn.params.toList.length → (s.fn H ds).results = [.lit (.bool true)] ∧ (s.fn H ds).args = ds ∧ (s.fn H ds).vars = [])
    (hok : ∀ xs, ArgsOf C.prog fn.params.toList xs → Ok C.prog f xs (.bool true)) :
    ReturnsInHanded as_ C os f .any (fun w args => (s.pre enc C.prog fn conds apart w args ∧ laidMetH C.prog L w) ∧ sizedMet enc C.prog fn (OpenSpec.ofChange s) apart w args) (s.post enc C.prog fn apart fresh handsOn again) := by
  have hks' : ∀ t ∈ fn.params.toList, t ∈ ks ∧ C.prog.readableRec t = true ∧ t < C.prog.types.size := fun t ht => by
    have := List.all_eq_true.1 hks t ht
    simp only [Bool.and_eq_true, decide_eq_true_eq, List.contains_iff_mem] at this
    exact ⟨this.1.1, this.1.2, this.2⟩
  refine returnsInHanded_of_change_and (X := fun w _ => laidMetH C.prog L w) (fun w w' _ hh h => by rw [laidMetH_plain hnoh] at h ⊢; exact laidMet.of_heap hh h) own started noInit hfn witness ?_
  intro W base args ds gs before hval hW _ _ _ _
  have hWc := hW
  obtain ⟨p, q, hA, hV, rfl, hfz, hnd⟩ := hW
  have hlen := trods_length hA
  have hgs : gs = [] := by
    rw [hv] at hV
    exact (trodVars_none hV).1
  subst hgs
  obtain ⟨xs, hx1, hx2⟩ := args_shape hl hk (fun t ht => (hks' t ht).1) (fun j t v ht hv' => hval j t v (by simpa using ht) (by simpa using hv')) hA
  obtain ⟨_, hc⟩ := hok xs hx1
  have := hc (Old W) W args.toList hx2 (fun b hb => hb)
  refine Calls.mono (by simpa using this) ?_
  rintro e W' ⟨v, S', rfl, hb, hpr, _, _⟩
  cases hpr
  refine ⟨_, rfl, law_post hl hWc hv hr htb ?_ (fun t ht => (hks' t ht).2) hb⟩
  rw [List.append_nil]
  exact hspec ds hlen
/-! ### a world whose listed variables are laid -/
def litV : Lit → Value
  | .int k n => .int k n
  | .bool b => .bool b
  | .string s => .string ⟨s.toArray⟩
  | _ => default
def laidCells : DataW Unit → Array Value
  | .agg l => (l.map fun x => match x with | .lit v => litV v | _ => default).toArray
  | .lit v => #[litV v]
  | _ => #[]
/-- Variable k holds these cells. -/
def layW (w : World) (k : Nat) (cells : Array Value) : World := { w with heap := w.heap.modify k fun
  | .cells _ t frozen => .cells cells t frozen
  | o => o }
end Go.Proofs.YtbapebepmbikhaaDoor.A
