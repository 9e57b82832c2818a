/- DfaChecks answers true for whatever it is called with; the input reads as it did. -/
import Derived.Test.YtbapebepmbikhaaDoorRows
import Derived.ChangeVars
import Derived.JoinedOf
import Derived.LaidLaws
import Derived.LaidHandle
import Derived.RowKit
import Derived.Test.YtbapebepmbikhaaDoorTie
import Derived.Test.YtbapebepmbikhaaDoorCards
import Derived.Test.YtbapebepmbikhaaDoorMLDChecks1
import Derived.Test.YtbapebepmbikhaaDoorMLDChecks2
import Derived.Test.YtbapebepmbikhaaDoorMLDChecks3
import Derived.Test.YtbapebepmbikhaaDoorMLDChecks4
import Derived.Test.YtbapebepmbikhaaDoorMLDChecks5
set_option linter.unusedVariables false
set_option linter.unusedSimpArgs false
set_option linter.unnecessarySimpa false
/- A, part 30: slices that a call makes, rows of them; pairs and steps in cells; a contract out of a walk. -/
namespace Go.Proofs.YtbapebepmbikhaaDoor.A
open Go

/-! ### cells of pairs, of steps -/
def cP (l : List (Int × Int)) : List AV := l.flatMap fun p => [.int .i64 p.1, .int .i64 p.2]
def cS (l : List (Int × Int × Int)) : List AV := l.flatMap fun p => [.int .i64 p.1, .int .i64 p.2.1, .int .i64 p.2.2]
@[go_sem] theorem cP_nil : cP [] = [] := rfl
@[go_sem] theorem cS_nil : cS [] = [] := rfl
theorem cP_app (x y) : cP (x ++ y) = cP x ++ cP y := by simp [cP]
theorem cS_app (x y) : cS (x ++ y) = cS x ++ cS y := by simp [cS]
theorem cP_snoc (l : List (Int × Int)) (f t : Int) : cP l ++ [.int .i64 f, .int .i64 t] = cP (l ++ [(f, t)]) := by simp [cP]
theorem cS_snoc (l : List (Int × Int × Int)) (f t s : Int) : cS l ++ [.int .i64 f, .int .i64 t, .int .i64 s] = cS (l ++ [(f, t, s)]) := by simp [cS]
@[go_sem] theorem cP_length (l) : (cP l).length = l.length * 2 := by
  induction l with
  | nil => rfl
  | cons p l ih => simp only [cP, List.flatMap_cons, List.length_append, List.length_cons, List.length_nil] at ih ⊢; omega
@[go_sem] theorem cS_length (l) : (cS l).length = l.length * 3 := by
  induction l with
  | nil => rfl
  | cons p l ih => simp only [cS, List.flatMap_cons, List.length_append, List.length_cons, List.length_nil] at ih ⊢; omega
@[go_sem] theorem cP_ok (l) : (cP l).all cellOk = true := by
  induction l with
  | nil => rfl
  | cons p l ih => simpa [cP, cellOk] using ih
@[go_sem] theorem cS_ok (l) : (cS l).all cellOk = true := by
  induction l with
  | nil => rfl
  | cons p l ih => simpa [cS, cellOk] using ih
@[go_sem] theorem view_cP (o d l) : (cP l).map (view o d) = cP l := by
  induction l with
  | nil => rfl
  | cons p l ih => simpa [cP, view_int] using ih
@[go_sem] theorem view_cS (o d l) : (cS l).map (view o d) = cS l := by
  induction l with
  | nil => rfl
  | cons p l ih => simpa [cS, view_int] using ih
@[go_sem] theorem tags_cP (o d l) : (cP l).flatMap (viewTags o d) = [] := by
  induction l with
  | nil => rfl
  | cons p l ih => simpa [cP, tags_int] using ih
@[go_sem] theorem tags_cS (o d l) : (cS l).flatMap (viewTags o d) = [] := by
  induction l with
  | nil => rfl
  | cons p l ih => simpa [cS, tags_int] using ih
theorem cP_at {l : List (Int × Int)} {i : Nat} (h : i < l.length) : (cP l).drop (i * 2) = .int .i64 (l.getD i (0, 0)).1 :: .int .i64 (l.getD i (0, 0)).2 :: cP (l.drop (i + 1)) := by
  induction l generalizing i with
  | nil => simp at h
  | cons p l ih =>
    cases i with
    | zero => rfl
    | succ i =>
      have : (i + 1) * 2 = i * 2 + 2 := by omega
      rw [this]
      have := ih (i := i) (by simpa using h)
      simpa [cP] using this
theorem cS_at {l : List (Int × Int × Int)} {i : Nat} (h : i < l.length) : (cS l).drop (i * 3) = .int .i64 (l.getD i (0, 0, 0)).1 :: .int .i64 (l.getD i (0, 0, 0)).2.1 :: .int .i64 (l.getD i (0, 0, 0)).2.2 :: cS (l.drop (i + 1)) := by
  induction l generalizing i with
  | nil => simp at h
  | cons p l ih =>
    cases i with
    | zero => rfl
    | succ i =>
      have : (i + 1) * 3 = i * 3 + 3 := by omega
      rw [this]
      have := ih (i := i) (by simpa using h)
      simpa [cS] using this
theorem cs_get {cs : List AV} {i s : Nat} (h : i < cs.length) : take1 false s (cs.drop i) = some (cs.getD i .nil) := by
  rw [take1_drop h]; simp [List.getD, h]
theorem splice_all {xs ys : List AV} (h : xs.length = ys.length) : splice xs 0 ys = ys := by rw [splice_zero, List.drop_eq_nil_of_le (by omega), List.append_nil]
theorem take_len {α : Type} {l : List α} {n : Nat} (h : l.length = n) : l.take n = l := by rw [← h]; exact List.take_length
theorem take_succ_getD {α : Type} {l : List α} {i : Nat} (h : i < l.length) (d : α) : l.take (i + 1) = l.take i ++ [l.getD i d] := by
  rw [List.take_add_one]; simp [List.getD, h]

@[go_sem] theorem cI_all (l) : (cI l).take l.length = cI l := take_len (by simp [cI])
@[go_sem] theorem cB_all (l) : (cB l).take l.length = cB l := take_len (by simp [cB])
@[go_sem] theorem cP_all (l) : (cP l).take (l.length * 2) = cP l := take_len (by simp [cP_length])
@[go_sem] theorem cS_all (l) : (cS l).take (l.length * 3) = cS l := take_len (by simp [cS_length])

/-! ### a slice that the call makes, which may be nil -/
/-- v holds cs, in a row of slot D. -/
def HS (e sz D : Nat) (o : Ob) (nx : Nat) (v : AV) (n : Nat) (cs : List AV) : Prop :=
  (v = .nil ∧ n = 0 ∧ cs = []) ∨ ∃ i g, v = .ref (i, D) g 0 n ∧ i < nx ∧ o (i, D) = some (.row ⟨e, sz, g, false, true, cs⟩) ∧ cs.length = n * sz
theorem HS.nil {e sz D o nx} : HS e sz D o nx .nil 0 [] := .inl ⟨rfl, rfl, rfl⟩
theorem HS.keep {e sz D o nx v n cs} (h : HS e sz D o nx v n cs) {o' : Ob} {nx' : Nat} (ho : ∀ i, i < nx → o' (i, D) = o (i, D)) (hn : nx ≤ nx') : HS e sz D o' nx' v n cs := by
  rcases h with h | ⟨i, g, h1, h2, h3, h4⟩
  · exact .inl h
  · exact .inr ⟨i, g, h1, by omega, by rw [ho i h2, h3], h4⟩
theorem HS.ok {e sz D o nx v n cs} (h : HS e sz D o nx v n cs) : cellOk v = true := by
  rcases h with ⟨rfl, _⟩ | ⟨i, g, rfl, _⟩ <;> rfl
theorem HS.cells {e sz D o nx v n cs} (h : HS e sz D o nx v n cs) : v.cells = [v] := by
  rcases h with ⟨rfl, _⟩ | ⟨i, g, rfl, _⟩ <;> rfl
theorem HS.len {e sz D o nx v n cs} (h : HS e sz D o nx v n cs) : cs.length = n * sz := by
  rcases h with ⟨_, rfl, rfl⟩ | ⟨i, g, _, _, _, h⟩
  · simp
  · exact h
/-- What it is handed on as. -/
theorem HS.view {e sz D o nx v n cs} (h : HS e sz D o nx v n cs) (d : Nat) : view o (d + 1) v = .sl n (cs.map (view o d)) := by
  rcases h with ⟨rfl, rfl, rfl⟩ | ⟨i, g, rfl, _, h3, h4⟩
  · rfl
  · rw [view_ref, h3, rowIf_some, viewR_some]
    simp only [Nat.zero_add, List.drop_zero]
    rw [if_pos (by omega), take_len h4]

theorem nin_slot {D : Nat} {l : List Tag} (h : ∀ t ∈ l, t.2 = D) {i j : Nat} (hj : j ≠ D) : nin (i, j) l = true := by
  unfold nin
  have : (i, j) ∉ l := fun hm => hj (h _ hm)
  simp [this]
theorem HS.tags {e sz D o nx v n cs} (h : HS e sz D o nx v n cs) (d : Nat) (hf : cs.flatMap (viewTags o d) = []) : ∀ t ∈ viewTags o (d + 1) v, t.2 = D := by
  rcases h with ⟨rfl, rfl, rfl⟩ | ⟨i, g, rfl, _, h3, h4⟩
  · intro t ht; cases ht
  · rw [tags_ref, h3, rowIf_some, tagsR_some, List.drop_zero, take_len h4, hf]
    intro t ht
    rw [List.mem_singleton.1 ht]
theorem HS.nin {e sz D o nx v n cs} (h : HS e sz D o nx v n cs) (d : Nat) (hf : cs.flatMap (viewTags o d) = []) {i j : Nat} (hj : j ≠ D) : A.nin (i, j) (viewTags o (d + 1) v) = true := nin_slot (h.tags d hf) hj

/-! ### rows of whole numbers, each of its own make -/
def NI (D : Nat) (o : Ob) (nx : Nat) (cs : List AV) (rows : List (List Int)) : Prop :=
  cs.length = rows.length ∧ (∀ j, j < rows.length → HS 3 1 D o nx (cs.getD j .nil) (rows.getD j []).length (cI (rows.getD j []))) ∧
    ∀ j j' i g n g' n', j < j' → cs.getD j .nil = .ref (i, D) g 0 n → cs.getD j' .nil ≠ .ref (i, D) g' 0 n'
theorem NI.keep {D o nx cs rows} (h : NI D o nx cs rows) {o' : Ob} {nx' : Nat} (ho : ∀ i, i < nx → o' (i, D) = o (i, D)) (hn : nx ≤ nx') : NI D o' nx' cs rows :=
  ⟨h.1, fun j hj => (h.2.1 j hj).keep ho hn, h.2.2⟩
theorem NI.start (D o nx) (n : Nat) : NI D o nx (List.replicate n .nil) (List.replicate n []) := by
  refine ⟨by simp, fun j hj => ?_, fun j j' i g m g' m' hj h => ?_⟩
  · have hj : j < n := by simpa using hj
    have e1 : (List.replicate n AV.nil).getD j .nil = .nil := by simp [List.getD, List.getElem?_replicate, hj]
    have e2 : (List.replicate n ([] : List Int)).getD j [] = [] := by simp [List.getD, List.getElem?_replicate, hj]
    rw [e1, e2]
    exact .inl ⟨rfl, rfl, rfl⟩
  · by_cases hj : j < n
    · have e1 : (List.replicate n AV.nil).getD j .nil = .nil := by simp [List.getD, List.getElem?_replicate, hj]
      rw [e1] at h; cases h
    · have e1 : (List.replicate n AV.nil).getD j .nil = .nil := by simp [List.getD, List.getElem?_replicate, hj]
      rw [e1] at h; cases h
theorem getD_set {α : Type} (l : List α) (i j : Nat) (x d : α) (hi : i < l.length) : (l.set i x).getD j d = if i = j then x else l.getD j d := by
  simp only [List.getD, List.getElem?_set]
  by_cases h : i = j
  · subst h; simp [hi]
  · simp [h]
/-- One of them is turned. -/
theorem NI.set {D o nx cs rows} (h : NI D o nx cs rows) {j : Nat} (hj : j < rows.length) {o' : Ob} {nx' : Nat} {i : Nat} {g : Tag} {l : List Int} {n : Nat} (hl : n = l.length) (hn : nx ≤ nx') (hi : i < nx')
    (hnew : cs.getD j .nil = .nil ∧ nx ≤ i ∨ ∃ g0 n0, cs.getD j .nil = .ref (i, D) g0 0 n0) (ho : ∀ i', i' < nx → i' ≠ i → o' (i', D) = o (i', D)) (hrow : o' (i, D) = some (.row ⟨3, 1, g, false, true, cI l⟩)) :
    NI D o' nx' (cs.set j (.ref (i, D) g 0 n)) (rows.set j l) := by
  subst hl
  obtain ⟨h1, h2, h3⟩ := h
  have hjc : j < cs.length := by omega
  have apart : ∀ j', j' ≠ j → ∀ g' n', cs.getD j' .nil = .ref (i, D) g' 0 n' → j' < rows.length → False := fun j' hne g' n' he hlt => by
    rcases hnew with ⟨_, hi'⟩ | ⟨g0, n0, he0⟩
    · rcases h2 j' hlt with ⟨e, _⟩ | ⟨i1, g1, e, hi1, _⟩
      · rw [e] at he; cases he
      · rw [e] at he; injection he with he; injection he with he; omega
    · rcases Nat.lt_or_gt_of_ne hne with hlt' | hlt'
      · exact h3 j' j i g' n' g0 n0 hlt' he he0
      · exact h3 j j' i g0 n0 g' n' hlt' he0 he
  have out : ∀ j', ¬ j' < rows.length → cs.getD j' .nil = .nil := fun j' hj' => by
    simp [List.getD, List.getElem?_eq_none (show cs.length ≤ j' by omega)]
  refine ⟨by simpa using h1, fun j' hj' => ?_, fun j1 j2 i1 g1 n1 g2 n2 hlt e1 e2 => ?_⟩
  · have hj'' : j' < rows.length := by simpa using hj'
    rw [getD_set _ _ _ _ _ hjc, getD_set _ _ _ _ _ hj]
    by_cases e : j = j'
    · rw [if_pos e, if_pos e]
      exact .inr ⟨i, g, rfl, hi, hrow, by simp [cI]⟩
    · rw [if_neg e, if_neg e]
      rcases h2 j' hj'' with hh | ⟨i1, g1, e1, hi1, e3, e4⟩
      · exact .inl hh
      · refine .inr ⟨i1, g1, e1, by omega, ?_, e4⟩
        rw [ho i1 hi1 (fun hc => by subst hc; exact apart j' (fun hc => e hc.symm) _ _ e1 hj''), e3]
  · rw [getD_set _ _ _ _ _ hjc] at e1 e2
    have bound : ∀ j', (∃ i g n, cs.getD j' .nil = .ref i g 0 n) → j' < rows.length := fun j' ⟨i, g, n, he⟩ => by
      by_cases hb : j' < rows.length
      · exact hb
      · rw [out j' hb] at he; cases he
    by_cases c1 : j = j1
    · rw [if_pos c1] at e1
      rw [if_neg (by omega)] at e2
      injection e1 with e1; injection e1 with e1
      subst e1
      exact apart j2 (by omega) _ _ e2 (bound j2 ⟨_, _, _, e2⟩)
    · rw [if_neg c1] at e1
      by_cases c2 : j = j2
      · rw [if_pos c2] at e2
        injection e2 with e2; injection e2 with e2
        subst e2
        exact apart j1 (by omega) _ _ e1 (bound j1 ⟨_, _, _, e1⟩)
      · rw [if_neg c2] at e2
        exact h3 j1 j2 i1 g1 n1 g2 n2 hlt e1 e2
/-- What they are handed on as. -/
theorem NI.view {D o nx cs rows} (h : NI D o nx cs rows) (d : Nat) : cs.map (A.view o (d + 1)) = rows.map slI := by
  refine List.ext_getElem (by simpa using h.1) fun j h1 h2 => ?_
  have hj : j < rows.length := by simpa using h2
  have hjc : j < cs.length := by simpa using h1
  have := h.2.1 j hj
  have e1 : cs.getD j .nil = cs[j] := by simp [List.getD, hjc]
  have e2 : rows.getD j [] = rows[j] := by simp [List.getD, hj]
  rw [e1, e2] at this
  simp only [List.getElem_map]
  rw [this.view, view_cI]

/-! ### contracts as relations -/
def Fun1 (R : List AV → AV → Prop) : Prop := ∀ args r r', R args r → R args r' → r = r'
open Classical in
noncomputable def tRel (R : List AV → AV → Prop) : List AV → Option AV := fun args => if h : ∃ r, R args r then some h.choose else none
theorem tRel_eq {R : List AV → AV → Prop} (hf : Fun1 R) {args : List AV} {r : AV} (h : R args r) : tRel R args = some r := by
  unfold tRel
  rw [dif_pos ⟨r, h⟩]
  exact congrArg some (hf _ _ _ (Exists.choose_spec (p := R args) ⟨r, h⟩) h)
theorem tRel_ok {P : Program} {f : FuncId} {R : List AV → AV → Prop} (hk : ∀ args r, R args r → Ok P f args r) : ∀ args r, tRel R args = some r → Ok P f args r := fun args r h => by
  unfold tRel at h
  split at h
  · rename_i hh
    injection h with h
    subst h
    exact hk _ _ hh.choose_spec
  · cases h
theorem cI_inj {x y : List Int} (h : cI x = cI y) : x = y := by
  unfold cI at h
  exact List.map_inj_right (fun a b h => by injection h) |>.1 h
theorem cB_inj {x y : List Bool} (h : cB x = cB y) : x = y := by
  unfold cB at h
  exact List.map_inj_right (fun a b h => by injection h) |>.1 h
theorem slI_inj {x y : List Int} (h : slI x = slI y) : x = y := by
  unfold slI at h; injection h with _ h; exact cI_inj h
theorem slIs_inj {x y : List (List Int)} (h : x.map slI = y.map slI) : x = y := List.map_inj_right (fun a b h => slI_inj h) |>.1 h
theorem cP_inj : ∀ {x y : List (Int × Int)}, cP x = cP y → x = y
  | [], [], _ => rfl
  | [], _ :: _, h => by cases h
  | _ :: _, [], h => by cases h
  | (a, b) :: x, (c, d) :: y, h => by
    simp only [cP, List.flatMap_cons, List.cons_append, List.nil_append, List.cons.injEq, AV.int.injEq, true_and] at h
    obtain ⟨rfl, rfl, h⟩ := h
    rw [cP_inj h]
theorem cS_inj : ∀ {x y : List (Int × Int × Int)}, cS x = cS y → x = y
  | [], [], _ => rfl
  | [], _ :: _, h => by cases h
  | _ :: _, [], h => by cases h
  | (a, b, e) :: x, (c, d, f) :: y, h => by
    simp only [cS, List.flatMap_cons, List.cons_append, List.nil_append, List.cons.injEq, AV.int.injEq, true_and] at h
    obtain ⟨rfl, rfl, rfl, h⟩ := h
    rw [cS_inj h]

/-! ### a contract out of a walk -/
theorem runP_of_WP {E : Env} {cr : CallR} {k : Nat} {nz : Nat → Option (List (Nat × Nat))} {fn : Func} {c : Code} {args : List AV} {r : AV} (hb : fn.body = some c)
    (h : WP E cr k nz c (begin_ args) (fun _ => none) 0 (fun u a o nx => (u = .normal ∨ u = .ret) ∧ wO (resultsL E.P a ⟨o, nx⟩ fn.results.toList) (fun vs => A.view o vDepth (tup1 vs) = r))) :
    ∃ v H', runP E cr k nz fn args noHeap = some (v, H') ∧ A.view H'.o vDepth v = r := by
  unfold WP at h
  unfold runP noHeap
  rw [hb]
  dsimp only
  cases he : evalP E (fun _ _ => none) cr k nz none c (begin_ args) { o := fun _ => none, nx := 0 } with
  | none => rw [he] at h; exact h.elim
  | some p =>
    obtain ⟨u, a, H⟩ := p
    rw [he] at h
    obtain ⟨hu, h⟩ := h
    obtain ⟨vs, h1, h2⟩ : ∃ vs, resultsL E.P a H fn.results.toList = some vs ∧ A.view H.o vDepth (tup1 vs) = r := by
      unfold wO at h
      split at h
      · rename_i vs e; exact ⟨vs, e, h⟩
      · exact h.elim
    rcases hu with rfl | rfl
    · dsimp only
      refine ⟨tup1 vs, H, ?_, h2⟩
      show (resultsL E.P a H fn.results.toList).map _ = _
      rw [show resultsL E.P a H fn.results.toList = some vs from h1]; rfl
    · dsimp only
      refine ⟨tup1 vs, H, ?_, h2⟩
      show (resultsL E.P a H fn.results.toList).map _ = _
      rw [show resultsL E.P a H fn.results.toList = some vs from h1]; rfl
theorem ok_of_WP {E : Env} {cr : CallR} (hX : CPSound E.P E.ext) (hR : CRSound E.P cr ∧ Up cr) (hm : E.P.follows .mixedOrders = true) {k : Nat} {nz : Nat → Option (List (Nat × Nat))} {fn : Func} {f : FuncId} {args : List AV} {r : AV} (hf : E.P.funcs[f]? = some fn)
    (hl : lookedAt E nz args.length fn = true) (hb : fn.body = some (fn.body.getD .skip))
    (h : WP E cr k nz (fn.body.getD .skip) (begin_ args) (fun _ => none) 0 (fun u a o nx => (u = .normal ∨ u = .ret) ∧ wO (resultsL E.P a ⟨o, nx⟩ fn.results.toList) (fun vs => A.view o vDepth (tup1 vs) = r))) : Ok E.P f args r := by
  obtain ⟨v, H', h1, h2⟩ := runP_of_WP hb h
  rw [← h2]
  exact ok_run hX hR.1 hR.2 hm hf hl h1
def noR : CallR := fun _ _ _ => none
theorem noR_ok (P : Program) : CRSound P noR ∧ Up noR := ⟨fun g args H v H' h => (by cases h), fun g args H v H' h => (by cases h)⟩
@[go_sem] theorem resultsL_nil (P a H) : resultsL P a H [] = some [] := rfl
@[go_sem] theorem resultsL_cons (P a H r rs) : resultsL P a H (r :: rs) = consO (result1 P a H r) (resultsL P a H rs) := rfl
@[go_sem] theorem result1_tmp (P a H t) : result1 P a H (.tmp t) = some (a t) := rfl
@[go_sem] theorem result1_cell (P a H ad t) : result1 P a H (.cell ad t) = aLoad P t (a ad) H := rfl
@[go_sem] theorem tup1_one (v) : tup1 [v] = v := rfl
@[go_sem] theorem tup1_two (v w) : tup1 [v, w] = .tup [v, w] := rfl
@[go_sem] theorem tup1_three (v w x) : tup1 [v, w, x] = .tup [v, w, x] := rfl
/-- A piece of code, by its place. -/
def pathC : List Nat → Code → Code
  | [], c => c
  | 0 :: p, .seq a _ => pathC p a
  | 1 :: p, .seq _ b => pathC p b
  | 0 :: p, .block _ c => pathC p c
  | 0 :: p, .loop c => pathC p c
  | 0 :: p, .scope c => pathC p c
  | 0 :: p, .cond _ a _ => pathC p a
  | 1 :: p, .cond _ _ b => pathC p b
  | _, c => c
end Go.Proofs.YtbapebepmbikhaaDoor.A
/- within: the remainder. -/
namespace Go.Proofs.YtbapebepmbikhaaDoor.A
open Go
set_option maxRecDepth 20000
def RW (args : List AV) (r : AV) : Prop := ∃ a n : Int, 0 < n ∧ n ≤ 1000000 ∧ args = [.int .i64 a, .int .i64 n] ∧ r = .int .i64 (a % n)
theorem RW_fn : Fun1 RW := by
  rintro args r r' ⟨a, n, _, _, rfl, rfl⟩ ⟨a', n', _, _, h, rfl⟩
  simp only [List.cons.injEq, AV.int.injEq, true_and, and_true] at h
  rw [h.1, h.2]
theorem rw_eq {a n : Int} (h1 : 0 < n) (h2 : n ≤ 1000000) : tRel RW [.int .i64 a, .int .i64 n] = some (.int .i64 (a % n)) := tRel_eq RW_fn ⟨a, n, h1, h2, rfl, rfl⟩
theorem mod_of (a n : Int) (h : 0 < n) : a % n = if a.tmod n < 0 then a.tmod n + n else a.tmod n := by
  have hn : ¬ n = 0 := by omega
  have e1 := Int.emod_lt_of_pos a h
  have e2 := Int.emod_nonneg a hn
  rw [Int.tmod_eq_emod]
  have : (n.natAbs : Int) = n := by omega
  split
  · split <;> omega
  · rename_i hc
    simp only [not_or] at hc
    have h0 : a % n ≠ 0 := fun e => hc.2 (Int.dvd_of_emod_eq_zero e)
    split <;> omega
theorem tmod_in (a n : Int) (h : 0 < n) : -n < a.tmod n ∧ a.tmod n < n := by
  have hn : ¬ n = 0 := by omega
  rw [Int.tmod_eq_emod]
  have := Int.emod_lt_of_pos a h
  have := Int.emod_nonneg a hn
  constructor <;> split <;> omega
theorem lookW0 (X) : lookedAt (EX md0 X) (fun _ => none) 2 Tryd.f34 = true := by kernel_rfl
theorem within0_ok (args r) (h : RW args r) : Ok Tryd.prog 34 args r := by
  obtain ⟨a, n, h1, h2, rfl, rfl⟩ := h
  refine ok_of_WP (E := EX md0 (fun _ _ => none)) (cr := noR) (tab_nil _) (noR_ok _) mixed (k := 0) Tryd.func34 (lookW0 _) rfl ?_
  rw [mod_of a n h1]
  obtain ⟨h3, h4⟩ := tmod_in a n h1
  simp only [Tryd.f34, Option.getD_some]
  by_cases hc : a.tmod n < 0
  · rw [if_pos hc]
    simp (disch := omega) only [go_sem, ↓IntWalk.iteOmega, IntWalk.toNatUp, Nat.reduceEqDiff, Nat.reduceAdd, Nat.reduceMul, Nat.reduceSub, Nat.reduceLT, Nat.reduceLeDiff, Int.reduceToNat, Int.reduceLT, Int.reduceLE, Int.reduceEq, Int.reduceAdd, Int.reduceSub, Int.reduceMul, Int.toNat_natCast, reduceCtorEq, decide_true, decide_false, IntWalk.i64_in, IntWalk.u64_in, IntWalk.u8_in, hc]
  · rw [if_neg hc]
    simp (disch := omega) only [go_sem, ↓IntWalk.iteOmega, IntWalk.toNatUp, Nat.reduceEqDiff, Nat.reduceAdd, Nat.reduceMul, Nat.reduceSub, Nat.reduceLT, Nat.reduceLeDiff, Int.reduceToNat, Int.reduceLT, Int.reduceLE, Int.reduceEq, Int.reduceAdd, Int.reduceSub, Int.reduceMul, Int.toNat_natCast, reduceCtorEq, decide_true, decide_false, IntWalk.i64_in, IntWalk.u64_in, IntWalk.u8_in, hc]
theorem lookW1 (X) : lookedAt (EX md0 X) (fun _ => none) 2 Tryd.f33 = true := by kernel_rfl
theorem within1_ok (args r) (h : RW args r) : Ok Tryd.prog 33 args r := by
  obtain ⟨a, n, h1, h2, rfl, rfl⟩ := h
  refine ok_of_WP (E := EX md0 (fun _ _ => none)) (cr := noR) (tab_nil _) (noR_ok _) mixed (k := 0) Tryd.func33 (lookW1 _) rfl ?_
  rw [mod_of a n h1]
  obtain ⟨h3, h4⟩ := tmod_in a n h1
  simp only [Tryd.f33, Option.getD_some]
  by_cases hc : a.tmod n < 0
  · rw [if_pos hc]
    simp (disch := omega) only [go_sem, ↓IntWalk.iteOmega, IntWalk.toNatUp, Nat.reduceEqDiff, Nat.reduceAdd, Nat.reduceMul, Nat.reduceSub, Nat.reduceLT, Nat.reduceLeDiff, Int.reduceToNat, Int.reduceLT, Int.reduceLE, Int.reduceEq, Int.reduceAdd, Int.reduceSub, Int.reduceMul, Int.toNat_natCast, reduceCtorEq, decide_true, decide_false, IntWalk.i64_in, IntWalk.u64_in, IntWalk.u8_in, hc]
  · rw [if_neg hc]
    simp (disch := omega) only [go_sem, ↓IntWalk.iteOmega, IntWalk.toNatUp, Nat.reduceEqDiff, Nat.reduceAdd, Nat.reduceMul, Nat.reduceSub, Nat.reduceLT, Nat.reduceLeDiff, Int.reduceToNat, Int.reduceLT, Int.reduceLE, Int.reduceEq, Int.reduceAdd, Int.reduceSub, Int.reduceMul, Int.toNat_natCast, reduceCtorEq, decide_true, decide_false, IntWalk.i64_in, IntWalk.u64_in, IntWalk.u8_in, hc]
theorem lookW2 (X) : lookedAt (EX md0 X) (fun _ => none) 2 Tryd.f52 = true := by kernel_rfl
theorem within2_ok (args r) (h : RW args r) : Ok Tryd.prog 52 args r := by
  obtain ⟨a, n, h1, h2, rfl, rfl⟩ := h
  refine ok_of_WP (E := EX md0 (fun _ _ => none)) (cr := noR) (tab_nil _) (noR_ok _) mixed (k := 0) Tryd.func52 (lookW2 _) rfl ?_
  rw [mod_of a n h1]
  obtain ⟨h3, h4⟩ := tmod_in a n h1
  simp only [Tryd.f52, Option.getD_some]
  by_cases hc : a.tmod n < 0
  · rw [if_pos hc]
    simp (disch := omega) only [go_sem, ↓IntWalk.iteOmega, IntWalk.toNatUp, Nat.reduceEqDiff, Nat.reduceAdd, Nat.reduceMul, Nat.reduceSub, Nat.reduceLT, Nat.reduceLeDiff, Int.reduceToNat, Int.reduceLT, Int.reduceLE, Int.reduceEq, Int.reduceAdd, Int.reduceSub, Int.reduceMul, Int.toNat_natCast, reduceCtorEq, decide_true, decide_false, IntWalk.i64_in, IntWalk.u64_in, IntWalk.u8_in, hc]
  · rw [if_neg hc]
    simp (disch := omega) only [go_sem, ↓IntWalk.iteOmega, IntWalk.toNatUp, Nat.reduceEqDiff, Nat.reduceAdd, Nat.reduceMul, Nat.reduceSub, Nat.reduceLT, Nat.reduceLeDiff, Int.reduceToNat, Int.reduceLT, Int.reduceLE, Int.reduceEq, Int.reduceAdd, Int.reduceSub, Int.reduceMul, Int.toNat_natCast, reduceCtorEq, decide_true, decide_false, IntWalk.i64_in, IntWalk.u64_in, IntWalk.u8_in, hc]
theorem lookW3 (X) : lookedAt (EX md0 X) (fun _ => none) 2 Tryd.f17 = true := by kernel_rfl
theorem within3_ok (args r) (h : RW args r) : Ok Tryd.prog 17 args r := by
  obtain ⟨a, n, h1, h2, rfl, rfl⟩ := h
  refine ok_of_WP (E := EX md0 (fun _ _ => none)) (cr := noR) (tab_nil _) (noR_ok _) mixed (k := 0) Tryd.func17 (lookW3 _) rfl ?_
  rw [mod_of a n h1]
  obtain ⟨h3, h4⟩ := tmod_in a n h1
  simp only [Tryd.f17, Option.getD_some]
  by_cases hc : a.tmod n < 0
  · rw [if_pos hc]
    simp (disch := omega) only [go_sem, ↓IntWalk.iteOmega, IntWalk.toNatUp, Nat.reduceEqDiff, Nat.reduceAdd, Nat.reduceMul, Nat.reduceSub, Nat.reduceLT, Nat.reduceLeDiff, Int.reduceToNat, Int.reduceLT, Int.reduceLE, Int.reduceEq, Int.reduceAdd, Int.reduceSub, Int.reduceMul, Int.toNat_natCast, reduceCtorEq, decide_true, decide_false, IntWalk.i64_in, IntWalk.u64_in, IntWalk.u8_in, hc]
  · rw [if_neg hc]
    simp (disch := omega) only [go_sem, ↓IntWalk.iteOmega, IntWalk.toNatUp, Nat.reduceEqDiff, Nat.reduceAdd, Nat.reduceMul, Nat.reduceSub, Nat.reduceLT, Nat.reduceLeDiff, Int.reduceToNat, Int.reduceLT, Int.reduceLE, Int.reduceEq, Int.reduceAdd, Int.reduceSub, Int.reduceMul, Int.toNat_natCast, reduceCtorEq, decide_true, decide_false, IntWalk.i64_in, IntWalk.u64_in, IntWalk.u8_in, hc]
end Go.Proofs.YtbapebepmbikhaaDoor.A
/- What all laws' rows share: arguments that read are data. -/
namespace Go.Proofs.YtbapebepmbikhaaDoor.A
open Go
theorem shaped_int {P : Program} {d : Nat} {t : TypeId} {xs : List AV} (hu : P.underlying t = some (.int .i64)) (h : Shaped P d t xs) : ∃ n, xs = [.int .i64 n] := by
  cases d with
  | zero => exact h.elim
  | succ d =>
    unfold Shaped at h
    rw [hu] at h
    obtain ⟨n, e, _⟩ := h
    exact ⟨n, e⟩
theorem ints_of {P : Program} {d : Nat} {t : TypeId} (hu : P.underlying t = some (.int .i64)) : ∀ parts : List (List AV), (∀ p ∈ parts, Shaped P d t p) → ∃ ns : List Int, parts.length = ns.length ∧ parts.flatten = cI ns
  | [], _ => ⟨[], rfl, rfl⟩
  | p :: parts, h => by
    obtain ⟨n, rfl⟩ := shaped_int hu (h p (List.mem_cons_self ..))
    obtain ⟨ns, h1, h2⟩ := ints_of hu parts (fun q hq => h q (List.mem_cons_of_mem _ hq))
    exact ⟨n :: ns, by simp [h1], by simp [cI, h2]⟩
theorem arg_ints {P : Program} {t e : TypeId} {x : AV} (hu : P.underlying t = some (.slice e)) (he : P.underlying e = some (.int .i64)) (h : ArgOf P t x) : ∃ ns : List Int, x = slI ns ∧ ns.length ≤ maxLen := by
  unfold ArgOf at h
  rw [hu] at h
  obtain ⟨d, h⟩ := h
  cases d with
  | zero => exact h.elim
  | succ d =>
    unfold Shaped at h
    rw [hu] at h
    obtain ⟨parts, e1, hle, h2⟩ := h
    injection e1 with e1 _
    obtain ⟨ns, h3, h4⟩ := ints_of he parts h2
    exact ⟨ns, by rw [e1, h3, h4], by omega⟩
theorem arg_bool {P : Program} {t : TypeId} {x : AV} (hu : P.underlying t = some .bool) (h : ArgOf P t x) : ∃ b, x = .bool b := by
  unfold ArgOf at h
  rw [hu] at h
  obtain ⟨d, h⟩ := h
  cases d with
  | zero => exact h.elim
  | succ d =>
    unfold Shaped at h
    rw [hu] at h
    obtain ⟨n, e⟩ := h
    injection e with e _
    exact ⟨n, e⟩
end Go.Proofs.YtbapebepmbikhaaDoor.A
namespace Go.Proofs.YtbapebepmbikhaaDoor
open Go Go.Proofs.YtbapebepmbikhaaDoor.A
theorem Tryd.own : ownKnob Tryd.prog.godebug = none := by kernel_rfl
theorem Tryd.laidOut : laidOutB Tryd.prog = true := by kernel_rfl
end Go.Proofs.YtbapebepmbikhaaDoor
/- A, part 31: contracts on the caller's memory, as relations. -/
namespace Go.Proofs.YtbapebepmbikhaaDoor.A
open Go
abbrev RRel := List AV → AH → AV → AH → Prop
open Classical in
noncomputable def cRel (R : RRel) (args : List AV) (H : AH) : Option (AV × AH) := if h : ∃ p : AV × AH, R args H p.1 p.2 then some h.choose else none
theorem cRel_some {R : RRel} {args H v H'} (h : cRel R args H = some (v, H')) : R args H v H' := by
  unfold cRel at h
  split at h
  · rename_i e
    have := e.choose_spec
    injection h with h
    rw [h] at this
    exact this
  · cases h
theorem cRel_call {R : RRel} {args : List AV} {H : AH} {K : AV × AH → Prop} (h1 : ∃ v H', R args H v H') (h2 : ∀ v H', R args H v H' → K (v, H')) : wO (Option.map (fun p => freezeR false p.1 p.2) (cRel R args H)) K := by
  obtain ⟨v, H', h⟩ := h1
  have e : ∃ p : AV × AH, R args H p.1 p.2 := ⟨(v, H'), h⟩
  have e2 : cRel R args H = some e.choose := by unfold cRel; rw [dif_pos e]
  rw [e2]
  exact h2 _ _ e.choose_spec
theorem runPR_of_WP {E : Env} {cr : CallR} {k : Nat} {nz : Nat → Option (List (Nat × Nat))} {fn : Func} {c : Code} {args : List AV} {o : Ob} {nx : Nat} {Post : AV → Ob → Nat → Prop} (hb : fn.body = some c)
    (h : WP E cr k nz c (begin_ args) o nx (fun u a o' nx' => (u = .normal ∨ u = .ret) ∧ wO (resultsL E.P a ⟨o', nx'⟩ fn.results.toList) (fun vs => Post (tup1 vs) o' nx'))) :
    ∃ v H', runP E cr k nz fn args ⟨o, nx⟩ = some (v, H') ∧ Post v H'.o H'.nx := by
  unfold WP at h
  unfold runP
  rw [hb]
  dsimp only
  cases he : evalP E (fun _ _ => none) cr k nz none c (begin_ args) ⟨o, nx⟩ with
  | none => rw [he] at h; exact h.elim
  | some p =>
    obtain ⟨u, a, H⟩ := p
    rw [he] at h
    obtain ⟨hu, h⟩ := h
    obtain ⟨vs, h1, h2⟩ : ∃ vs, resultsL E.P a H fn.results.toList = some vs ∧ Post (tup1 vs) H.o H.nx := by
      unfold wO at h
      split at h
      · rename_i vs e; exact ⟨vs, e, h⟩
      · exact h.elim
    rcases hu with rfl | rfl
    · dsimp only
      refine ⟨tup1 vs, H, ?_, h2⟩
      show (resultsL E.P a H fn.results.toList).map _ = _
      rw [show resultsL E.P a H fn.results.toList = some vs from h1]; rfl
    · dsimp only
      refine ⟨tup1 vs, H, ?_, h2⟩
      show (resultsL E.P a H fn.results.toList).map _ = _
      rw [show resultsL E.P a H fn.results.toList = some vs from h1]; rfl
theorem okR_of_WP {E : Env} {cr : CallR} (hX : CPSound E.P E.ext) (hR : CRSound E.P cr ∧ Up cr) (hm : E.P.follows .mixedOrders = true) {k : Nat} {nz : Nat → Option (List (Nat × Nat))} {fn : Func} {f : FuncId} {args : List AV} {o : Ob} {nx : Nat} {Post : AV → Ob → Nat → Prop} (hf : E.P.funcs[f]? = some fn)
    (hl : lookedAt E nz args.length fn = true) (hb : fn.body = some (fn.body.getD .skip))
    (h : WP E cr k nz (fn.body.getD .skip) (begin_ args) o nx (fun u a o' nx' => (u = .normal ∨ u = .ret) ∧ wO (resultsL E.P a ⟨o', nx'⟩ fn.results.toList) (fun vs => Post (tup1 vs) o' nx'))) : ∃ v H', OkR E.P f args ⟨o, nx⟩ v H' ∧ Post v H'.o H'.nx := by
  obtain ⟨v, H', h1, h2⟩ := runPR_of_WP hb h
  exact ⟨v, H', okR_run hX hR.1 hR.2 hm hf hl h1, h2⟩
end Go.Proofs.YtbapebepmbikhaaDoor.A
/- A, part 32: loops, round by round. -/
namespace Go.Proofs.YtbapebepmbikhaaDoor.A
open Go
section
variable (E : Env) (cr : CallR) (k : Nat) (nz : Nat → Option (List (Nat × Nat)))
/-- A loop of n rounds at most. -/
def WPL (n : Nat) (c : Code) (a : AAct) (o : Ob) (nx : Nat) (Q : WPost) : Prop :=
  match iter (evalP E (fun _ _ => none) cr k nz none c) n a ⟨o, nx⟩ with
  | some (u, a', H') => Q u a' H'.o H'.nx
  | none => False
def loopQ (n : Nat) (c : Code) (Q : WPost) : WPost := fun u a o nx => match u with
  | .normal => WPL E cr k nz n c a o nx Q
  | u => Q u a o nx
end
section
variable {E : Env} {cr : CallR} {k : Nat} {nz : Nat → Option (List (Nat × Nat))}
theorem loopQ_normal (n c) (Q : WPost) (a o nx) : loopQ E cr k nz n c Q .normal a o nx = WPL E cr k nz n c a o nx Q := rfl
theorem loopQ_ret (n c) (Q : WPost) (a o nx) : loopQ E cr k nz n c Q .ret a o nx = Q .ret a o nx := rfl
theorem loopQ_exit (n c) (Q : WPost) (i a o nx) : loopQ E cr k nz n c Q (.exit i) a o nx = Q (.exit i) a o nx := rfl
theorem loopQ_goto (n c) (Q : WPost) (i a o nx) : loopQ E cr k nz n c Q (.goto i) a o nx = Q (.goto i) a o nx := rfl
theorem WPL_succ (n : Nat) (c : Code) (a o nx) (Q : WPost) : WPL E cr k nz (n + 1) c a o nx Q = WP E cr k nz c a o nx (loopQ E cr k nz n c Q) := by
  unfold WPL WP
  simp only [iter]
  cases evalP E (fun _ _ => none) cr k nz none c a ⟨o, nx⟩ with
  | none => rfl
  | some p =>
    obtain ⟨u, a', H'⟩ := p
    cases u <;> rfl
theorem WP_loop_eq (c : Code) (a o nx) (Q : WPost) : WP E cr k nz (.loop c) a o nx Q = WPL E cr k nz k c a o nx Q := by
  unfold WPL WP
  simp only [evalP]
  all_goals rfl
end
end Go.Proofs.YtbapebepmbikhaaDoor.A
/- A, part 33: a law's row that lists variables, from its contract. -/
namespace Go.Proofs.YtbapebepmbikhaaDoor.A
open Go Go.ChangeShapes
theorem laidMetH_plain {P : Program} {L : List (String × DataW Unit)} (h : (L.filter fun x => x.2.handleName?.isSome) = []) (w : World) : laidMetH P L w = laidMet P L w := by
  unfold laidMetH
  rw [h]
theorem law_laid {H : Type} {enc : TypeId × Value → H} {as_ : Assume} {C : Checked} {os : Os} {f : FuncId} {fn : Func} {s : ChangeSpec} {conds : List PathCond} {apart fresh handsOn again : Bool} {L : List (String × DataW Unit)} (hnoh : (L.filter fun x => x.2.handleName?.isSome) = [])
    (own : ownKnob C.prog.godebug = none) (started : os.Started) (noInit : C.prog.inits.idxOf? f = none) (hfn : C.prog.funcs[f]? = some fn)
    (witness : ∃ (w : World) (tape : Tape) (i : Input), w.os = os ∧ (w.forCall tape i).Shaped C.prog ∧ i.vars = [] ∧ Input.okWide C.prog (w.forCall tape i) .any w.heap.size f i ∧
      ((s.pre enc C.prog fn conds apart (w.forCall tape i).memory i.args ∧ laidMetH C.prog L (w.forCall tape i).memory) ∧ sizedMet enc C.prog fn (OpenSpec.ofChange s) apart (w.forCall tape i).memory i.args) ∧ as_.holds C.prog (lone (Frame.enter C.prog f i.args .normal) [] (w.forCall tape i)))
    (hl : laidOutB C.prog = true) {ks : List TypeId} (hk : dataTypes C.prog ks = true) (hks : fn.params.toList.all (fun t => ks.contains t && C.prog.readableRec t && decide (t < C.prog.types.size)) = true)
    {tb : TypeId} (hr : fn.resultTypes = #[tb]) (htb : C.prog.underlying tb = some .bool) (hv : s.vars = [])
    (hspec : ∀ ds : List (DataW H), ds.length = fn.params.toList.length → (s.fn H ds).results = [.lit (.bool true)] ∧ (s.fn H ds).args = ds ∧ (s.fn H ds).vars = [])
    (hok : ∀ xs, ArgsOf C.prog fn.params.toList xs → Ok C.prog f xs (.bool true)) :
    ReturnsInHanded as_ C os f .any (fun w args => (s.pre enc C.prog fn conds apart w args ∧ laidMetH C.prog L w) ∧ sizedMet enc C.prog fn (OpenSpec.ofChange s) apart w args) (s.post enc C.prog fn apart fresh handsOn again) := by
  have hks' : ∀ t ∈ fn.params.toList, t ∈ ks ∧ C.prog.readableRec t = true ∧ t < C.prog.types.size := fun t ht => by
    have := List.all_eq_true.1 hks t ht
    simp only [Bool.and_eq_true, decide_eq_true_eq, List.contains_iff_mem] at this
    exact ⟨this.1.1, this.1.2, this.2⟩
  refine returnsInHanded_of_change_and (X := fun w _ => laidMetH C.prog L w) (fun w w' _ hh h => by rw [laidMetH_plain hnoh] at h ⊢; exact laidMet.of_heap hh h) own started noInit hfn witness ?_
  intro W base args ds gs before hval hW _ _ _ _
  have hWc := hW
  obtain ⟨p, q, hA, hV, rfl, hfz, hnd⟩ := hW
  have hlen := trods_length hA
  have hgs : gs = [] := by
    rw [hv] at hV
    exact (trodVars_none hV).1
  subst hgs
  obtain ⟨xs, hx1, hx2⟩ := args_shape hl hk (fun t ht => (hks' t ht).1) (fun j t v ht hv' => hval j t v (by simpa using ht) (by simpa using hv')) hA
  obtain ⟨_, hc⟩ := hok xs hx1
  have := hc (Old W) W args.toList hx2 (fun b hb => hb)
  refine Calls.mono (by simpa using this) ?_
  rintro e W' ⟨v, S', rfl, hb, hpr, _, _⟩
  cases hpr
  refine ⟨_, rfl, law_post hl hWc hv hr htb ?_ (fun t ht => (hks' t ht).2) hb⟩
  rw [List.append_nil]
  exact hspec ds hlen
/-! ### a world whose listed variables are laid -/
def litV : Lit → Value
  | .int k n => .int k n
  | .bool b => .bool b
  | .string s => .string ⟨s.toArray⟩
  | _ => default
def laidCells : DataW Unit → Array Value
  | .agg l => (l.map fun x => match x with | .lit v => litV v | _ => default).toArray
  | .lit v => #[litV v]
  | _ => #[]
/-- Variable k holds these cells. -/
def layW (w : World) (k : Nat) (cells : Array Value) : World := { w with heap := w.heap.modify k fun
  | .cells _ t frozen => .cells cells t frozen
  | o => o }
end Go.Proofs.YtbapebepmbikhaaDoor.A
/- A world whose listed variables are laid; what a tied card asks. -/
namespace Go.Proofs.YtbapebepmbikhaaDoor
open Go Go.Proofs.YtbapebepmbikhaaDoor.A
set_option maxRecDepth 100000
abbrev laidL : List (String × DataW Unit) := [("math/bits.deBruijn32tab", Rows.laid_math_bits_deBruijn32tab), ("math/bits.deBruijn64tab", Rows.laid_math_bits_deBruijn64tab), ("internal/strconv.uint64pow10", Rows.laid_internal_strconv_uint64pow10)]
theorem laidL_noh : (laidL.filter fun x => x.2.handleName?.isSome) = [] := by kernel_rfl
noncomputable def laidWorld (os : Os) : World :=
  layW (layW (layW (World.holding Tryd.prog os ⟨#[], #[], []⟩) 0 (laidCells Rows.laid_internal_strconv_uint64pow10)) 1 (laidCells Rows.laid_math_bits_deBruijn32tab)) 2 (laidCells Rows.laid_math_bits_deBruijn64tab)
theorem laidWorld_met (os : Os) (args : Array Value) : laidMetH Tryd.prog laidL ((laidWorld os).forCall (fun _ _ => 0) ⟨#[], args, []⟩).memory := by
  rw [laidMetH_plain laidL_noh]
  exact laidMet_of_run' 80 (by kernel_rfl) (by kernel_rfl)
theorem wants_all {P : Program} {l : Array TypeId} (h : (l.toList.all fun t => !P.wantsStandIn t) = true) {j : Nat} {t : TypeId} (ht : l[j]? = some t) : P.wantsStandIn t = false := by
  have := List.all_eq_true.1 h t (by
    rw [← Array.getElem?_toList] at ht
    exact List.mem_of_getElem? ht)
  simpa using this
end Go.Proofs.YtbapebepmbikhaaDoor
/- Machines of one way: state, Go, Run. -/
namespace Go.Proofs.YtbapebepmbikhaaDoor.A
open Go
set_option maxRecDepth 20000
/-- A machine of n states: where they lead, five by five; whether they accept. -/
abbrev dfaV (n : Nat) (N : List Int) (A : List Bool) : AV := .agg [.sl n (cI N), slB A]
theorem dfaV_inj {n n' : Nat} {N N' : List Int} {A A' : List Bool} (h : dfaV n N A = dfaV n' N' A') : n = n' ∧ N = N' ∧ A = A' := by
  injection h with h
  simp only [List.cons.injEq, AV.sl.injEq, and_true] at h
  exact ⟨h.1.1, cI_inj h.1.2, cB_inj h.2.2⟩
def goD (N : List Int) : Int → List Int → Int
  | s, [] => s
  | s, m :: w => if m < 0 ∨ 5 ≤ m then -1 else goD N (N.getD (s.toNat * 5 + m.toNat) 0) w
def goFull (n : Nat) (N : List Int) (s : Int) (w : List Int) : Int := if 0 ≤ s ∧ s < (n : Int) then goD N s w else -1
def runD (n : Nat) (N : List Int) (A : List Bool) (w : List Int) : Bool := if 0 ≤ goFull n N 0 w then A.getD (goFull n N 0 w).toNat false else false
structure WfD (n : Nat) (N : List Int) (A : List Bool) : Prop where
  sz : 1 ≤ n ∧ n ≤ 2000
  l : N.length = 5 * n
  a : A.length = n
  e : ∀ x ∈ N, 0 ≤ x ∧ x < (n : Int)
theorem WfD.get {n N A} (h : WfD n N A) {k : Nat} (hk : k < 5 * n) : 0 ≤ N.getD k 0 ∧ N.getD k 0 < (n : Int) := by
  have hk' : k < N.length := by rw [h.l]; exact hk
  rw [List.getD_eq_getElem?_getD, List.getElem?_eq_getElem hk']
  exact h.e _ (List.getElem_mem ..)
theorem goD_in {n N A} (h : WfD n N A) : ∀ (w : List Int) (s : Int), 0 ≤ s → s < (n : Int) → -1 ≤ goD N s w ∧ goD N s w < (n : Int)
  | [], s, h1, h2 => by rw [goD]; omega
  | m :: w, s, h1, h2 => by
    rw [goD]
    by_cases hm : m < 0 ∨ 5 ≤ m
    · rw [if_pos hm]; omega
    · rw [if_neg hm]
      have := h.get (k := s.toNat * 5 + m.toNat) (by omega)
      exact goD_in h w _ this.1 this.2
theorem goD_cut (N : List Int) : ∀ (w : List Int) (i : Nat) (s : Int), i ≤ w.length → (∀ x ∈ w.take i, 0 ≤ x ∧ x < 5) → goD N s w = goD N (goD N s (w.take i)) (w.drop i)
  | w, 0, s, _, _ => by rw [List.take_zero, List.drop_zero, goD]
  | [], i + 1, s, h, _ => by simp at h
  | m :: w, i + 1, s, h, hx => by
    have hm := hx m (by simp)
    rw [List.take_succ_cons, List.drop_succ_cons, goD, goD, if_neg (by omega), if_neg (by omega)]
    exact goD_cut N w i _ (by simpa using h) (fun x hx' => hx x (by rw [List.take_succ_cons]; exact List.mem_cons_of_mem _ hx'))
def RStD (args : List AV) (r : AV) : Prop := ∃ (n : Nat) (N : List Int) (A : List Bool) (s : Int), args = [dfaV n N A, .int .i64 s] ∧ r = .bool (decide (0 ≤ s ∧ s < (n : Int)))
theorem RStD_fn : Fun1 RStD := by
  rintro args r r' ⟨n, N, A, s, rfl, rfl⟩ ⟨n', N', A', s', h, rfl⟩
  simp only [List.cons.injEq, AV.int.injEq, true_and, and_true] at h
  rw [(dfaV_inj h.1).1, h.2]
theorem lookStD (X) : lookedAt (EX md0 X) (fun _ => none) 2 Tryd.f32 = true := by kernel_rfl
theorem RStD_ok (args r) (h : RStD args r) : Ok Tryd.prog 32 args r := by
  obtain ⟨n, N, A, s, rfl, rfl⟩ := h
  refine ok_of_WP (E := EX md0 (fun _ _ => none)) (cr := noR) (tab_nil _) (noR_ok _) mixed (k := 0) Tryd.func32 (lookStD _) rfl ?_
  simp only [Tryd.f32, Option.getD_some]
  by_cases h1 : 0 ≤ s
  · by_cases h2 : s < (n : Int)
    · rw [decide_eq_true ⟨h1, h2⟩]
      simp (disch := omega) only [go_sem, ↓IntWalk.iteOmega, IntWalk.toNatUp, Nat.reduceEqDiff, Nat.reduceAdd, Nat.reduceMul, Nat.reduceSub, Nat.reduceLT, Nat.reduceLeDiff, Int.reduceToNat, Int.reduceLT, Int.reduceLE, Int.reduceEq, Int.reduceAdd, Int.reduceSub, Int.reduceMul, Int.toNat_natCast, reduceCtorEq, decide_true, decide_false, IntWalk.i64_in, IntWalk.u64_in, IntWalk.u8_in, h1, h2]
    · rw [decide_eq_false (fun h => h2 h.2)]
      simp (disch := omega) only [go_sem, ↓IntWalk.iteOmega, IntWalk.toNatUp, Nat.reduceEqDiff, Nat.reduceAdd, Nat.reduceMul, Nat.reduceSub, Nat.reduceLT, Nat.reduceLeDiff, Int.reduceToNat, Int.reduceLT, Int.reduceLE, Int.reduceEq, Int.reduceAdd, Int.reduceSub, Int.reduceMul, Int.toNat_natCast, reduceCtorEq, decide_true, decide_false, IntWalk.i64_in, IntWalk.u64_in, IntWalk.u8_in, h1, h2]
  · rw [decide_eq_false (fun h => h1 h.1)]
    simp (disch := omega) only [go_sem, ↓IntWalk.iteOmega, IntWalk.toNatUp, Nat.reduceEqDiff, Nat.reduceAdd, Nat.reduceMul, Nat.reduceSub, Nat.reduceLT, Nat.reduceLeDiff, Int.reduceToNat, Int.reduceLT, Int.reduceLE, Int.reduceEq, Int.reduceAdd, Int.reduceSub, Int.reduceMul, Int.toNat_natCast, reduceCtorEq, decide_true, decide_false, IntWalk.i64_in, IntWalk.u64_in, IntWalk.u8_in, h1]
noncomputable def XStD : FuncId → List AV → Option AV := tabLook [(32, tRel RStD)]
theorem XStD_ok : CPSound Tryd.prog XStD := tab_cons (tab_nil _) (tRel_ok RStD_ok)
theorem XStD_eq (n : Nat) (N : List Int) (A : List Bool) (s : Int) : XStD 32 [dfaV n N A, .int .i64 s] = some (.bool (decide (0 ≤ s ∧ s < (n : Int)))) := tRel_eq RStD_fn ⟨n, N, A, s, rfl, rfl⟩
theorem lookGoD : lookedAt (EX md0 XStD) (fun _ => none) 3 Tryd.f19 = true := by kernel_rfl
theorem lookGoR (X) : lookedAt (EX md0 X) (fun _ => none) 3 Tryd.f20 = true := by kernel_rfl
theorem go_drop {N : List Int} {w : List Int} {i : Nat} (h : i < w.length) (s : Int) : goD N s (w.drop i) = if w.getD i 0 < 0 ∨ 5 ≤ w.getD i 0 then -1 else goD N (N.getD (s.toNat * 5 + (w.getD i 0).toNat) 0) (w.drop (i + 1)) := by
  have e : w.getD i 0 = w[i] := by simp [List.getD, h]
  rw [List.drop_eq_getElem_cons h, goD, e]
theorem dgo_ok {n : Nat} {N : List Int} {A : List Bool} (hw : WfD n N A) (s : Int) (w : List Int) (hl : w.length ≤ 1000000) : Ok Tryd.prog 19 [dfaV n N A, .int .i64 s, slI w] (.int .i64 (goFull n N s w)) := by
  refine ok_of_WP (E := EX md0 XStD) (cr := noR) XStD_ok (noR_ok _) mixed (k := 1000002) Tryd.func19 lookGoD rfl ?_
  have hst := XStD_eq n N A s
  have hn := hw.sz
  have hN := hw.l
  simp only [Tryd.f19, Option.getD_some]
  unfold goFull
  by_cases hs : 0 ≤ s ∧ s < (n : Int)
  · rw [if_pos hs]
    rw [decide_eq_true hs] at hst
    simp (disch := omega) only [go_sem, ↓IntWalk.iteOmega, IntWalk.toNatUp, Nat.reduceEqDiff, Nat.reduceAdd, Nat.reduceMul, Nat.reduceSub, Nat.reduceLT, Nat.reduceLeDiff, Int.reduceToNat, Int.reduceLT, Int.reduceLE, Int.reduceEq, Int.reduceAdd, Int.reduceSub, Int.reduceMul, Int.toNat_natCast, reduceCtorEq, decide_true, decide_false, IntWalk.i64_in, IntWalk.u64_in, IntWalk.u8_in, hst]
    refine WP_loop (fun m a o nx => ∃ (i : Nat) (s' : Int), i ≤ w.length ∧ m = w.length - i ∧ 0 ≤ s' ∧ s' < (n : Int) ∧ goD N s w = goD N s' (w.drop i) ∧ a 1 = .int .i64 s' ∧ a 3 = .ptr (0, 3) (0, 3) 0 ∧ a 13 = slI w ∧ a 14 = .int .i64 w.length ∧ a 15 = .int .i64 i ∧ o (0, 3) = some (.row ⟨25, 1, (0, 3), false, true, [.sl n (cI N), slB A]⟩)) w.length (by omega) ⟨0, s, by omega, by omega, hs.1, hs.2, rfl, by simp (disch := omega) only [go_sem, ↓IntWalk.iteOmega, IntWalk.toNatUp, Nat.reduceEqDiff, Nat.reduceAdd, Nat.reduceMul, Nat.reduceSub, Nat.reduceLT, Nat.reduceLeDiff, Int.reduceToNat, Int.reduceLT, Int.reduceLE, Int.reduceEq, Int.reduceAdd, Int.reduceSub, Int.reduceMul, Int.toNat_natCast, reduceCtorEq, decide_true, decide_false, IntWalk.i64_in, IntWalk.u64_in, IntWalk.u8_in], by simp (disch := omega) only [go_sem, ↓IntWalk.iteOmega, IntWalk.toNatUp, Nat.reduceEqDiff, Nat.reduceAdd, Nat.reduceMul, Nat.reduceSub, Nat.reduceLT, Nat.reduceLeDiff, Int.reduceToNat, Int.reduceLT, Int.reduceLE, Int.reduceEq, Int.reduceAdd, Int.reduceSub, Int.reduceMul, Int.toNat_natCast, reduceCtorEq, decide_true, decide_false, IntWalk.i64_in, IntWalk.u64_in, IntWalk.u8_in], by simp (disch := omega) only [go_sem, ↓IntWalk.iteOmega, IntWalk.toNatUp, Nat.reduceEqDiff, Nat.reduceAdd, Nat.reduceMul, Nat.reduceSub, Nat.reduceLT, Nat.reduceLeDiff, Int.reduceToNat, Int.reduceLT, Int.reduceLE, Int.reduceEq, Int.reduceAdd, Int.reduceSub, Int.reduceMul, Int.toNat_natCast, reduceCtorEq, decide_true, decide_false, IntWalk.i64_in, IntWalk.u64_in, IntWalk.u8_in], by simp (disch := omega) only [go_sem, ↓IntWalk.iteOmega, IntWalk.toNatUp, Nat.reduceEqDiff, Nat.reduceAdd, Nat.reduceMul, Nat.reduceSub, Nat.reduceLT, Nat.reduceLeDiff, Int.reduceToNat, Int.reduceLT, Int.reduceLE, Int.reduceEq, Int.reduceAdd, Int.reduceSub, Int.reduceMul, Int.toNat_natCast, reduceCtorEq, decide_true, decide_false, IntWalk.i64_in, IntWalk.u64_in, IntWalk.u8_in], by simp (disch := omega) only [go_sem, ↓IntWalk.iteOmega, IntWalk.toNatUp, Nat.reduceEqDiff, Nat.reduceAdd, Nat.reduceMul, Nat.reduceSub, Nat.reduceLT, Nat.reduceLeDiff, Int.reduceToNat, Int.reduceLT, Int.reduceLE, Int.reduceEq, Int.reduceAdd, Int.reduceSub, Int.reduceMul, Int.toNat_natCast, reduceCtorEq, decide_true, decide_false, IntWalk.i64_in, IntWalk.u64_in, IntWalk.u8_in], by simp [upd_app]⟩ ?_
    rintro m a o nx ⟨i, s', hi, rfl, hs1, hs2, hgo, h1, h3, h13, h14, h15, o3⟩
    by_cases hlt : i < w.length
    · have hg := cI_get (s := 1) hlt
      rw [go_drop hlt] at hgo
      obtain ⟨x, hx⟩ : ∃ x, x = w.getD i 0 := ⟨_, rfl⟩
      rw [← hx] at hg hgo
      by_cases hx0 : x < 0
      · rw [if_pos (.inl hx0)] at hgo
        simp (disch := omega) only [go_sem, ↓IntWalk.iteOmega, IntWalk.toNatUp, Nat.reduceEqDiff, Nat.reduceAdd, Nat.reduceMul, Nat.reduceSub, Nat.reduceLT, Nat.reduceLeDiff, Int.reduceToNat, Int.reduceLT, Int.reduceLE, Int.reduceEq, Int.reduceAdd, Int.reduceSub, Int.reduceMul, Int.toNat_natCast, reduceCtorEq, decide_true, decide_false, IntWalk.i64_in, IntWalk.u64_in, IntWalk.u8_in, h1, h3, h13, h14, h15, o3, hg, hx0]
        rw [hgo]
      · by_cases hx5 : 5 ≤ x
        · rw [if_pos (.inr hx5)] at hgo
          simp (disch := omega) only [go_sem, ↓IntWalk.iteOmega, IntWalk.toNatUp, Nat.reduceEqDiff, Nat.reduceAdd, Nat.reduceMul, Nat.reduceSub, Nat.reduceLT, Nat.reduceLeDiff, Int.reduceToNat, Int.reduceLT, Int.reduceLE, Int.reduceEq, Int.reduceAdd, Int.reduceSub, Int.reduceMul, Int.toNat_natCast, reduceCtorEq, decide_true, decide_false, IntWalk.i64_in, IntWalk.u64_in, IntWalk.u8_in, h1, h3, h13, h14, h15, o3, hg, hx0, hx5]
          rw [hgo]
        · rw [if_neg (by omega)] at hgo
          have hk : s'.toNat * 5 + x.toNat < N.length := by omega
          have hat : take1 false 1 (((cI N).drop (s'.toNat * 5)).drop x.toNat) = some (.int .i64 (N.getD (s'.toNat * 5 + x.toNat) 0)) := by
            rw [List.drop_drop]; exact cI_get hk
          have hin := hw.get (k := s'.toNat * 5 + x.toNat) (by omega)
          simp (disch := omega) only [go_sem, ↓IntWalk.iteOmega, IntWalk.toNatUp, Nat.reduceEqDiff, Nat.reduceAdd, Nat.reduceMul, Nat.reduceSub, Nat.reduceLT, Nat.reduceLeDiff, Int.reduceToNat, Int.reduceLT, Int.reduceLE, Int.reduceEq, Int.reduceAdd, Int.reduceSub, Int.reduceMul, Int.toNat_natCast, reduceCtorEq, decide_true, decide_false, IntWalk.i64_in, IntWalk.u64_in, IntWalk.u8_in, h1, h3, h13, h14, h15, o3, hg, hx0, hx5, hat]
          exact ⟨_, by omega, i + 1, _, by omega, rfl, hin.1, hin.2, hgo, rfl, rfl⟩
    · rw [List.drop_of_length_le (by omega), goD] at hgo
      simp (disch := omega) only [go_sem, ↓IntWalk.iteOmega, IntWalk.toNatUp, Nat.reduceEqDiff, Nat.reduceAdd, Nat.reduceMul, Nat.reduceSub, Nat.reduceLT, Nat.reduceLeDiff, Int.reduceToNat, Int.reduceLT, Int.reduceLE, Int.reduceEq, Int.reduceAdd, Int.reduceSub, Int.reduceMul, Int.toNat_natCast, reduceCtorEq, decide_true, decide_false, IntWalk.i64_in, IntWalk.u64_in, IntWalk.u8_in, h1, h3, h13, h14, h15, o3]
      rw [hgo]
  · rw [if_neg hs]
    rw [decide_eq_false hs] at hst
    simp (disch := omega) only [go_sem, ↓IntWalk.iteOmega, IntWalk.toNatUp, Nat.reduceEqDiff, Nat.reduceAdd, Nat.reduceMul, Nat.reduceSub, Nat.reduceLT, Nat.reduceLeDiff, Int.reduceToNat, Int.reduceLT, Int.reduceLE, Int.reduceEq, Int.reduceAdd, Int.reduceSub, Int.reduceMul, Int.toNat_natCast, reduceCtorEq, decide_true, decide_false, IntWalk.i64_in, IntWalk.u64_in, IntWalk.u8_in, hst]
theorem rgo_ok {n : Nat} {N : List Int} {A : List Bool} (hw : WfD n N A) (s : Int) (w : List Int) (hl : w.length ≤ 1000000) : Ok Tryd.prog 20 [dfaV n N A, .int .i64 s, slI w] (.int .i64 (goFull n N s w)) := by
  refine ok_of_WP (E := EX md0 (fun _ _ => none)) (cr := noR) (tab_nil _) (noR_ok _) mixed (k := 1000002) Tryd.func20 (lookGoR _) rfl ?_
  have hn := hw.sz
  have hN := hw.l
  simp only [Tryd.f20, Option.getD_some]
  unfold goFull
  by_cases hs0 : s < 0
  · rw [if_neg (by omega)]
    simp (disch := omega) only [go_sem, ↓IntWalk.iteOmega, IntWalk.toNatUp, Nat.reduceEqDiff, Nat.reduceAdd, Nat.reduceMul, Nat.reduceSub, Nat.reduceLT, Nat.reduceLeDiff, Int.reduceToNat, Int.reduceLT, Int.reduceLE, Int.reduceEq, Int.reduceAdd, Int.reduceSub, Int.reduceMul, Int.toNat_natCast, reduceCtorEq, decide_true, decide_false, IntWalk.i64_in, IntWalk.u64_in, IntWalk.u8_in, hs0]
  by_cases hsn : (n : Int) ≤ s
  · rw [if_neg (by omega)]
    simp (disch := omega) only [go_sem, ↓IntWalk.iteOmega, IntWalk.toNatUp, Nat.reduceEqDiff, Nat.reduceAdd, Nat.reduceMul, Nat.reduceSub, Nat.reduceLT, Nat.reduceLeDiff, Int.reduceToNat, Int.reduceLT, Int.reduceLE, Int.reduceEq, Int.reduceAdd, Int.reduceSub, Int.reduceMul, Int.toNat_natCast, reduceCtorEq, decide_true, decide_false, IntWalk.i64_in, IntWalk.u64_in, IntWalk.u8_in, hs0, hsn]
  rw [if_pos (by omega)]
  simp (disch := omega) only [go_sem, ↓IntWalk.iteOmega, IntWalk.toNatUp, Nat.reduceEqDiff, Nat.reduceAdd, Nat.reduceMul, Nat.reduceSub, Nat.reduceLT, Nat.reduceLeDiff, Int.reduceToNat, Int.reduceLT, Int.reduceLE, Int.reduceEq, Int.reduceAdd, Int.reduceSub, Int.reduceMul, Int.toNat_natCast, reduceCtorEq, decide_true, decide_false, IntWalk.i64_in, IntWalk.u64_in, IntWalk.u8_in, hs0, hsn]
  refine WP_loop (fun m a o nx => ∃ (i : Nat) (s' : Int), i ≤ w.length ∧ m = w.length - i ∧ 0 ≤ s' ∧ s' < (n : Int) ∧ goD N s w = goD N s' (w.drop i) ∧ a 1 = .int .i64 s' ∧ a 2 = slI w ∧ a 3 = .ptr (0, 3) (0, 3) 0 ∧ a 7 = .int .i64 i ∧ o (0, 3) = some (.row ⟨25, 1, (0, 3), false, true, [.sl n (cI N), slB A]⟩)) w.length (by omega) ⟨0, s, by omega, by omega, by omega, by omega, rfl, by simp (disch := omega) only [go_sem, ↓IntWalk.iteOmega, IntWalk.toNatUp, Nat.reduceEqDiff, Nat.reduceAdd, Nat.reduceMul, Nat.reduceSub, Nat.reduceLT, Nat.reduceLeDiff, Int.reduceToNat, Int.reduceLT, Int.reduceLE, Int.reduceEq, Int.reduceAdd, Int.reduceSub, Int.reduceMul, Int.toNat_natCast, reduceCtorEq, decide_true, decide_false, IntWalk.i64_in, IntWalk.u64_in, IntWalk.u8_in], by simp (disch := omega) only [go_sem, ↓IntWalk.iteOmega, IntWalk.toNatUp, Nat.reduceEqDiff, Nat.reduceAdd, Nat.reduceMul, Nat.reduceSub, Nat.reduceLT, Nat.reduceLeDiff, Int.reduceToNat, Int.reduceLT, Int.reduceLE, Int.reduceEq, Int.reduceAdd, Int.reduceSub, Int.reduceMul, Int.toNat_natCast, reduceCtorEq, decide_true, decide_false, IntWalk.i64_in, IntWalk.u64_in, IntWalk.u8_in], by simp (disch := omega) only [go_sem, ↓IntWalk.iteOmega, IntWalk.toNatUp, Nat.reduceEqDiff, Nat.reduceAdd, Nat.reduceMul, Nat.reduceSub, Nat.reduceLT, Nat.reduceLeDiff, Int.reduceToNat, Int.reduceLT, Int.reduceLE, Int.reduceEq, Int.reduceAdd, Int.reduceSub, Int.reduceMul, Int.toNat_natCast, reduceCtorEq, decide_true, decide_false, IntWalk.i64_in, IntWalk.u64_in, IntWalk.u8_in], by simp (disch := omega) only [go_sem, ↓IntWalk.iteOmega, IntWalk.toNatUp, Nat.reduceEqDiff, Nat.reduceAdd, Nat.reduceMul, Nat.reduceSub, Nat.reduceLT, Nat.reduceLeDiff, Int.reduceToNat, Int.reduceLT, Int.reduceLE, Int.reduceEq, Int.reduceAdd, Int.reduceSub, Int.reduceMul, Int.toNat_natCast, reduceCtorEq, decide_true, decide_false, IntWalk.i64_in, IntWalk.u64_in, IntWalk.u8_in], by simp [upd_app]⟩ ?_
  rintro m a o nx ⟨i, s', hi, rfl, hs1, hs2, hgo, h1, h2, h3, h7, o3⟩
  by_cases hlt : i < w.length
  · have hg := cI_get (s := 1) hlt
    rw [go_drop hlt] at hgo
    obtain ⟨x, hx⟩ : ∃ x, x = w.getD i 0 := ⟨_, rfl⟩
    rw [← hx] at hg hgo
    by_cases hx0 : x < 0
    · rw [if_pos (.inl hx0)] at hgo
      simp (disch := omega) only [go_sem, ↓IntWalk.iteOmega, IntWalk.toNatUp, Nat.reduceEqDiff, Nat.reduceAdd, Nat.reduceMul, Nat.reduceSub, Nat.reduceLT, Nat.reduceLeDiff, Int.reduceToNat, Int.reduceLT, Int.reduceLE, Int.reduceEq, Int.reduceAdd, Int.reduceSub, Int.reduceMul, Int.toNat_natCast, reduceCtorEq, decide_true, decide_false, IntWalk.i64_in, IntWalk.u64_in, IntWalk.u8_in, h1, h2, h3, h7, o3, hg, hx0]
      rw [hgo]
    · by_cases hx5 : 5 ≤ x
      · rw [if_pos (.inr hx5)] at hgo
        simp (disch := omega) only [go_sem, ↓IntWalk.iteOmega, IntWalk.toNatUp, Nat.reduceEqDiff, Nat.reduceAdd, Nat.reduceMul, Nat.reduceSub, Nat.reduceLT, Nat.reduceLeDiff, Int.reduceToNat, Int.reduceLT, Int.reduceLE, Int.reduceEq, Int.reduceAdd, Int.reduceSub, Int.reduceMul, Int.toNat_natCast, reduceCtorEq, decide_true, decide_false, IntWalk.i64_in, IntWalk.u64_in, IntWalk.u8_in, h1, h2, h3, h7, o3, hg, hx0, hx5]
        rw [hgo]
      · rw [if_neg (by omega)] at hgo
        have hk : s'.toNat * 5 + x.toNat < N.length := by omega
        have hat : take1 false 1 (((cI N).drop (s'.toNat * 5)).drop x.toNat) = some (.int .i64 (N.getD (s'.toNat * 5 + x.toNat) 0)) := by
          rw [List.drop_drop]; exact cI_get hk
        have hin := hw.get (k := s'.toNat * 5 + x.toNat) (by omega)
        simp (disch := omega) only [go_sem, ↓IntWalk.iteOmega, IntWalk.toNatUp, Nat.reduceEqDiff, Nat.reduceAdd, Nat.reduceMul, Nat.reduceSub, Nat.reduceLT, Nat.reduceLeDiff, Int.reduceToNat, Int.reduceLT, Int.reduceLE, Int.reduceEq, Int.reduceAdd, Int.reduceSub, Int.reduceMul, Int.toNat_natCast, reduceCtorEq, decide_true, decide_false, IntWalk.i64_in, IntWalk.u64_in, IntWalk.u8_in, h1, h2, h3, h7, o3, hg, hx0, hx5, hat]
        exact ⟨_, by omega, i + 1, _, by omega, rfl, hin.1, hin.2, hgo, rfl, rfl⟩
  · rw [List.drop_of_length_le (by omega), goD] at hgo
    simp (disch := omega) only [go_sem, ↓IntWalk.iteOmega, IntWalk.toNatUp, Nat.reduceEqDiff, Nat.reduceAdd, Nat.reduceMul, Nat.reduceSub, Nat.reduceLT, Nat.reduceLeDiff, Int.reduceToNat, Int.reduceLT, Int.reduceLE, Int.reduceEq, Int.reduceAdd, Int.reduceSub, Int.reduceMul, Int.toNat_natCast, reduceCtorEq, decide_true, decide_false, IntWalk.i64_in, IntWalk.u64_in, IntWalk.u8_in, h1, h2, h3, h7, o3]
    rw [hgo]
end Go.Proofs.YtbapebepmbikhaaDoor.A
/- Machines of one way: Run, Check. -/
namespace Go.Proofs.YtbapebepmbikhaaDoor.A
open Go
set_option maxRecDepth 20000
def RGoD (args : List AV) (r : AV) : Prop := ∃ (n : Nat) (N : List Int) (A : List Bool) (s : Int) (w : List Int), WfD n N A ∧ w.length ≤ 1000000 ∧ args = [dfaV n N A, .int .i64 s, slI w] ∧ r = .int .i64 (goFull n N s w)
theorem RGoD_fn : Fun1 RGoD := by
  rintro args r r' ⟨n, N, A, s, w, _, _, rfl, rfl⟩ ⟨n', N', A', s', w', _, _, h, rfl⟩
  simp only [List.cons.injEq, AV.int.injEq, true_and, and_true] at h
  obtain ⟨h1, h2, h3⟩ := dfaV_inj h.1
  rw [h1, h2, h.2.1, slI_inj h.2.2]
theorem RGoD_dfa (args r) (h : RGoD args r) : Ok Tryd.prog 19 args r := by obtain ⟨n, N, A, s, w, h1, h2, rfl, rfl⟩ := h; exact dgo_ok h1 s w h2
theorem RGoD_ref (args r) (h : RGoD args r) : Ok Tryd.prog 20 args r := by obtain ⟨n, N, A, s, w, h1, h2, rfl, rfl⟩ := h; exact rgo_ok h1 s w h2
noncomputable def XGoD : FuncId → List AV → Option AV := tabLook [(19, tRel RGoD), (20, tRel RGoD)]
theorem XGoD_ok : CPSound Tryd.prog XGoD := tab_cons (tab_cons (tab_nil _) (tRel_ok RGoD_ref)) (tRel_ok RGoD_dfa)
theorem XGoD_dfa {n : Nat} {N : List Int} {A : List Bool} (h : WfD n N A) (s : Int) (w : List Int) (hl : w.length ≤ 1000000) : XGoD 19 [dfaV n N A, .int .i64 s, slI w] = some (.int .i64 (goFull n N s w)) := tRel_eq (R := RGoD) RGoD_fn ⟨_, _, _, _, _, h, hl, rfl, rfl⟩
theorem XGoD_ref {n : Nat} {N : List Int} {A : List Bool} (h : WfD n N A) (s : Int) (w : List Int) (hl : w.length ≤ 1000000) : XGoD 20 [dfaV n N A, .int .i64 s, slI w] = some (.int .i64 (goFull n N s w)) := tRel_eq (R := RGoD) RGoD_fn ⟨_, _, _, _, _, h, hl, rfl, rfl⟩
theorem goFull_in {n N A} (h : WfD n N A) (s : Int) (w : List Int) : -1 ≤ goFull n N s w ∧ goFull n N s w < (n : Int) := by
  unfold goFull
  split
  · rename_i hs; exact goD_in h w s hs.1 hs.2
  · omega
theorem lookRunD0 : lookedAt (EX md0 XGoD) (fun _ => none) 2 Tryd.f21 = true := by kernel_rfl
theorem drun0_ok {n : Nat} {N : List Int} {A : List Bool} (hw : WfD n N A) (w : List Int) (hl : w.length ≤ 1000000) : Ok Tryd.prog 21 [dfaV n N A, slI w] (.bool (runD n N A w)) := by
  refine ok_of_WP (E := EX md0 XGoD) (cr := noR) XGoD_ok (noR_ok _) mixed (k := 0) Tryd.func21 lookRunD0 rfl ?_
  have h1 := XGoD_dfa hw 0 w hl
  have h2 := XGoD_ref hw 0 w hl
  have hin := goFull_in hw 0 w
  have ha := hw.a
  simp only [Tryd.f21, Option.getD_some]
  unfold runD
  obtain ⟨g, hg⟩ : ∃ g, g = goFull n N 0 w := ⟨_, rfl⟩
  rw [← hg] at h1 h2 hin ⊢
  by_cases h0 : 0 ≤ g
  · rw [if_pos h0]
    have hat := cB_get (l := A) (i := g.toNat) (s := 1) (by omega)
    simp (disch := omega) only [go_sem, ↓IntWalk.iteOmega, IntWalk.toNatUp, Nat.reduceEqDiff, Nat.reduceAdd, Nat.reduceMul, Nat.reduceSub, Nat.reduceLT, Nat.reduceLeDiff, Int.reduceToNat, Int.reduceLT, Int.reduceLE, Int.reduceEq, Int.reduceAdd, Int.reduceSub, Int.reduceMul, Int.toNat_natCast, reduceCtorEq, decide_true, decide_false, IntWalk.i64_in, IntWalk.u64_in, IntWalk.u8_in, h1, h2, h0, hat]
  · rw [if_neg h0]
    simp (disch := omega) only [go_sem, ↓IntWalk.iteOmega, IntWalk.toNatUp, Nat.reduceEqDiff, Nat.reduceAdd, Nat.reduceMul, Nat.reduceSub, Nat.reduceLT, Nat.reduceLeDiff, Int.reduceToNat, Int.reduceLT, Int.reduceLE, Int.reduceEq, Int.reduceAdd, Int.reduceSub, Int.reduceMul, Int.toNat_natCast, reduceCtorEq, decide_true, decide_false, IntWalk.i64_in, IntWalk.u64_in, IntWalk.u8_in, h1, h2, h0]
theorem lookRunD1 : lookedAt (EX md0 XGoD) (fun _ => none) 2 Tryd.f22 = true := by kernel_rfl
theorem drun1_ok {n : Nat} {N : List Int} {A : List Bool} (hw : WfD n N A) (w : List Int) (hl : w.length ≤ 1000000) : Ok Tryd.prog 22 [dfaV n N A, slI w] (.bool (runD n N A w)) := by
  refine ok_of_WP (E := EX md0 XGoD) (cr := noR) XGoD_ok (noR_ok _) mixed (k := 0) Tryd.func22 lookRunD1 rfl ?_
  have h1 := XGoD_dfa hw 0 w hl
  have h2 := XGoD_ref hw 0 w hl
  have hin := goFull_in hw 0 w
  have ha := hw.a
  simp only [Tryd.f22, Option.getD_some]
  unfold runD
  obtain ⟨g, hg⟩ : ∃ g, g = goFull n N 0 w := ⟨_, rfl⟩
  rw [← hg] at h1 h2 hin ⊢
  by_cases h0 : 0 ≤ g
  · rw [if_pos h0]
    have hat := cB_get (l := A) (i := g.toNat) (s := 1) (by omega)
    simp (disch := omega) only [go_sem, ↓IntWalk.iteOmega, IntWalk.toNatUp, Nat.reduceEqDiff, Nat.reduceAdd, Nat.reduceMul, Nat.reduceSub, Nat.reduceLT, Nat.reduceLeDiff, Int.reduceToNat, Int.reduceLT, Int.reduceLE, Int.reduceEq, Int.reduceAdd, Int.reduceSub, Int.reduceMul, Int.toNat_natCast, reduceCtorEq, decide_true, decide_false, IntWalk.i64_in, IntWalk.u64_in, IntWalk.u8_in, h1, h2, h0, hat]
  · rw [if_neg h0]
    simp (disch := omega) only [go_sem, ↓IntWalk.iteOmega, IntWalk.toNatUp, Nat.reduceEqDiff, Nat.reduceAdd, Nat.reduceMul, Nat.reduceSub, Nat.reduceLT, Nat.reduceLeDiff, Int.reduceToNat, Int.reduceLT, Int.reduceLE, Int.reduceEq, Int.reduceAdd, Int.reduceSub, Int.reduceMul, Int.toNat_natCast, reduceCtorEq, decide_true, decide_false, IntWalk.i64_in, IntWalk.u64_in, IntWalk.u8_in, h1, h2, h0]
def chkD (n : Nat) (N : List Int) (A : List Bool) : Bool := decide (1 ≤ n ∧ n ≤ 2000 ∧ A.length = n) && N.all (fun x => decide (0 ≤ x ∧ x < (n : Int)))
theorem all_not {p : Int → Bool} {l : List Int} {k : Nat} (hk : k < l.length) (h : p (l.getD k 0) = false) : l.all p = false := by
  rw [← Bool.not_eq_true, List.all_eq_true]
  intro hh
  have := hh (l.getD k 0) (by rw [List.getD_eq_getElem?_getD, List.getElem?_eq_getElem hk]; exact List.getElem_mem ..)
  rw [h] at this; cases this
theorem all_all {p : Int → Bool} {l : List Int} (h : ∀ k, k < l.length → p (l.getD k 0) = true) : l.all p = true := by
  rw [List.all_eq_true]
  intro x hx
  obtain ⟨k, hk, rfl⟩ := List.getElem_of_mem hx
  have := h k hk
  rw [List.getD_eq_getElem?_getD, List.getElem?_eq_getElem hk] at this
  exact this
theorem lookChkR (X) : lookedAt (EX md0 X) (fun _ => none) 1 Tryd.f16 = true := by kernel_rfl
theorem lookChkD : lookedAt (EX md0 XStD) (fun _ => none) 1 Tryd.f15 = true := by kernel_rfl
theorem rchk_ok (n : Nat) (N : List Int) (A : List Bool) (hN : N.length = 5 * n) : Ok Tryd.prog 16 [dfaV n N A] (.bool (chkD n N A)) := by
  refine ok_of_WP (E := EX md0 (fun _ _ => none)) (cr := noR) (tab_nil _) (noR_ok _) mixed (k := 2002) Tryd.func16 (lookChkR _) rfl ?_
  simp only [Tryd.f16, Option.getD_some]
  unfold chkD
  by_cases h1 : (n : Int) < 1
  · rw [decide_eq_false (by omega), Bool.false_and]
    simp (disch := omega) only [go_sem, ↓IntWalk.iteOmega, IntWalk.toNatUp, Nat.reduceEqDiff, Nat.reduceAdd, Nat.reduceMul, Nat.reduceSub, Nat.reduceLT, Nat.reduceLeDiff, Int.reduceToNat, Int.reduceLT, Int.reduceLE, Int.reduceEq, Int.reduceAdd, Int.reduceSub, Int.reduceMul, Int.toNat_natCast, reduceCtorEq, decide_true, decide_false, IntWalk.i64_in, IntWalk.u64_in, IntWalk.u8_in, h1]
  by_cases h2 : (2000 : Int) < n
  · rw [decide_eq_false (by omega), Bool.false_and]
    simp (disch := omega) only [go_sem, ↓IntWalk.iteOmega, IntWalk.toNatUp, Nat.reduceEqDiff, Nat.reduceAdd, Nat.reduceMul, Nat.reduceSub, Nat.reduceLT, Nat.reduceLeDiff, Int.reduceToNat, Int.reduceLT, Int.reduceLE, Int.reduceEq, Int.reduceAdd, Int.reduceSub, Int.reduceMul, Int.toNat_natCast, reduceCtorEq, decide_true, decide_false, IntWalk.i64_in, IntWalk.u64_in, IntWalk.u8_in, h1, h2]
  by_cases h3' : ¬ (A.length : Int) = n
  · have h3 := h3'
    rw [decide_eq_false (by omega), Bool.false_and]
    simp (disch := omega) only [go_sem, ↓IntWalk.iteOmega, IntWalk.toNatUp, Nat.reduceEqDiff, Nat.reduceAdd, Nat.reduceMul, Nat.reduceSub, Nat.reduceLT, Nat.reduceLeDiff, Int.reduceToNat, Int.reduceLT, Int.reduceLE, Int.reduceEq, Int.reduceAdd, Int.reduceSub, Int.reduceMul, Int.toNat_natCast, reduceCtorEq, decide_true, decide_false, IntWalk.i64_in, IntWalk.u64_in, IntWalk.u8_in, h1, h2, h3]
  have h3 : (A.length : Int) = n := Decidable.not_not.1 h3'
  rw [decide_eq_true (by omega), Bool.true_and]
  simp (disch := omega) only [go_sem, ↓IntWalk.iteOmega, IntWalk.toNatUp, Nat.reduceEqDiff, Nat.reduceAdd, Nat.reduceMul, Nat.reduceSub, Nat.reduceLT, Nat.reduceLeDiff, Int.reduceToNat, Int.reduceLT, Int.reduceLE, Int.reduceEq, Int.reduceAdd, Int.reduceSub, Int.reduceMul, Int.toNat_natCast, reduceCtorEq, decide_true, decide_false, IntWalk.i64_in, IntWalk.u64_in, IntWalk.u8_in, h1, h2, h3]
  refine WP_loop (fun m a o nx => ∃ i : Nat, i ≤ n ∧ m = n - i ∧ (∀ k, k < i * 5 → decide (0 ≤ N.getD k 0 ∧ N.getD k 0 < (n : Int)) = true) ∧ a 1 = .ptr (0, 1) (0, 1) 0 ∧ a 3 = .int .i64 n ∧ a 4 = .int .i64 i ∧ o (0, 1) = some (.row ⟨25, 1, (0, 1), false, true, [.sl n (cI N), slB A]⟩)) n (by omega) ⟨0, by omega, by omega, fun k hk => by omega, by simp (disch := omega) only [go_sem, ↓IntWalk.iteOmega, IntWalk.toNatUp, Nat.reduceEqDiff, Nat.reduceAdd, Nat.reduceMul, Nat.reduceSub, Nat.reduceLT, Nat.reduceLeDiff, Int.reduceToNat, Int.reduceLT, Int.reduceLE, Int.reduceEq, Int.reduceAdd, Int.reduceSub, Int.reduceMul, Int.toNat_natCast, reduceCtorEq, decide_true, decide_false, IntWalk.i64_in, IntWalk.u64_in, IntWalk.u8_in], by simp (disch := omega) only [go_sem, ↓IntWalk.iteOmega, IntWalk.toNatUp, Nat.reduceEqDiff, Nat.reduceAdd, Nat.reduceMul, Nat.reduceSub, Nat.reduceLT, Nat.reduceLeDiff, Int.reduceToNat, Int.reduceLT, Int.reduceLE, Int.reduceEq, Int.reduceAdd, Int.reduceSub, Int.reduceMul, Int.toNat_natCast, reduceCtorEq, decide_true, decide_false, IntWalk.i64_in, IntWalk.u64_in, IntWalk.u8_in], by simp (disch := omega) only [go_sem, ↓IntWalk.iteOmega, IntWalk.toNatUp, Nat.reduceEqDiff, Nat.reduceAdd, Nat.reduceMul, Nat.reduceSub, Nat.reduceLT, Nat.reduceLeDiff, Int.reduceToNat, Int.reduceLT, Int.reduceLE, Int.reduceEq, Int.reduceAdd, Int.reduceSub, Int.reduceMul, Int.toNat_natCast, reduceCtorEq, decide_true, decide_false, IntWalk.i64_in, IntWalk.u64_in, IntWalk.u8_in], by simp [upd_app]⟩ ?_
  rintro m a o nx ⟨i, hi, rfl, hall, ha1, ha3, ha4, o1⟩
  by_cases hlt : i < n
  · simp (disch := omega) only [go_sem, ↓IntWalk.iteOmega, IntWalk.toNatUp, Nat.reduceEqDiff, Nat.reduceAdd, Nat.reduceMul, Nat.reduceSub, Nat.reduceLT, Nat.reduceLeDiff, Int.reduceToNat, Int.reduceLT, Int.reduceLE, Int.reduceEq, Int.reduceAdd, Int.reduceSub, Int.reduceMul, Int.toNat_natCast, reduceCtorEq, decide_true, decide_false, IntWalk.i64_in, IntWalk.u64_in, IntWalk.u8_in, ha1, ha3, ha4, o1]
    refine WP_loop (fun m' a o' nx => ∃ j : Nat, j ≤ 5 ∧ m' = 5 - j ∧ (∀ k, k < i * 5 + j → decide (0 ≤ N.getD k 0 ∧ N.getD k 0 < (n : Int)) = true) ∧ a 1 = .ptr (0, 1) (0, 1) 0 ∧ a 3 = .int .i64 n ∧ a 4 = .int .i64 i ∧ a 5 = .int .i64 j ∧ o' = o) 5 (by omega) ⟨0, by omega, by omega, hall, by simp (disch := omega) only [go_sem, ↓IntWalk.iteOmega, IntWalk.toNatUp, Nat.reduceEqDiff, Nat.reduceAdd, Nat.reduceMul, Nat.reduceSub, Nat.reduceLT, Nat.reduceLeDiff, Int.reduceToNat, Int.reduceLT, Int.reduceLE, Int.reduceEq, Int.reduceAdd, Int.reduceSub, Int.reduceMul, Int.toNat_natCast, reduceCtorEq, decide_true, decide_false, IntWalk.i64_in, IntWalk.u64_in, IntWalk.u8_in, ha1], by simp (disch := omega) only [go_sem, ↓IntWalk.iteOmega, IntWalk.toNatUp, Nat.reduceEqDiff, Nat.reduceAdd, Nat.reduceMul, Nat.reduceSub, Nat.reduceLT, Nat.reduceLeDiff, Int.reduceToNat, Int.reduceLT, Int.reduceLE, Int.reduceEq, Int.reduceAdd, Int.reduceSub, Int.reduceMul, Int.toNat_natCast, reduceCtorEq, decide_true, decide_false, IntWalk.i64_in, IntWalk.u64_in, IntWalk.u8_in, ha3], by simp (disch := omega) only [go_sem, ↓IntWalk.iteOmega, IntWalk.toNatUp, Nat.reduceEqDiff, Nat.reduceAdd, Nat.reduceMul, Nat.reduceSub, Nat.reduceLT, Nat.reduceLeDiff, Int.reduceToNat, Int.reduceLT, Int.reduceLE, Int.reduceEq, Int.reduceAdd, Int.reduceSub, Int.reduceMul, Int.toNat_natCast, reduceCtorEq, decide_true, decide_false, IntWalk.i64_in, IntWalk.u64_in, IntWalk.u8_in, ha4], by simp (disch := omega) only [go_sem, ↓IntWalk.iteOmega, IntWalk.toNatUp, Nat.reduceEqDiff, Nat.reduceAdd, Nat.reduceMul, Nat.reduceSub, Nat.reduceLT, Nat.reduceLeDiff, Int.reduceToNat, Int.reduceLT, Int.reduceLE, Int.reduceEq, Int.reduceAdd, Int.reduceSub, Int.reduceMul, Int.toNat_natCast, reduceCtorEq, decide_true, decide_false, IntWalk.i64_in, IntWalk.u64_in, IntWalk.u8_in], rfl⟩ ?_
    rintro m' a o' nx ⟨j, hj, rfl, hall, ha1, ha3, ha4, ha5, rfl⟩
    by_cases hj5 : j < 5
    · have hk : i * 5 + j < N.length := by omega
      have hat : take1 false 1 (((cI N).drop (i * 5)).drop j) = some (.int .i64 (N.getD (i * 5 + j) 0)) := by
        rw [List.drop_drop]; exact cI_get hk
      obtain ⟨x, hx⟩ : ∃ x, x = N.getD (i * 5 + j) 0 := ⟨_, rfl⟩
      rw [← hx] at hat
      by_cases hx0 : x < 0
      · rw [all_not hk (by rw [← hx, decide_eq_false_iff_not]; omega)]
        simp (disch := omega) only [go_sem, ↓IntWalk.iteOmega, IntWalk.toNatUp, Nat.reduceEqDiff, Nat.reduceAdd, Nat.reduceMul, Nat.reduceSub, Nat.reduceLT, Nat.reduceLeDiff, Int.reduceToNat, Int.reduceLT, Int.reduceLE, Int.reduceEq, Int.reduceAdd, Int.reduceSub, Int.reduceMul, Int.toNat_natCast, reduceCtorEq, decide_true, decide_false, IntWalk.i64_in, IntWalk.u64_in, IntWalk.u8_in, ha1, ha3, ha4, ha5, o1, hat, hx0]
      · by_cases hxn : (n : Int) ≤ x
        · rw [all_not hk (by rw [← hx, decide_eq_false_iff_not]; omega)]
          simp (disch := omega) only [go_sem, ↓IntWalk.iteOmega, IntWalk.toNatUp, Nat.reduceEqDiff, Nat.reduceAdd, Nat.reduceMul, Nat.reduceSub, Nat.reduceLT, Nat.reduceLeDiff, Int.reduceToNat, Int.reduceLT, Int.reduceLE, Int.reduceEq, Int.reduceAdd, Int.reduceSub, Int.reduceMul, Int.toNat_natCast, reduceCtorEq, decide_true, decide_false, IntWalk.i64_in, IntWalk.u64_in, IntWalk.u8_in, ha1, ha3, ha4, ha5, o1, hat, hx0, hxn]
        · simp (disch := omega) only [go_sem, ↓IntWalk.iteOmega, IntWalk.toNatUp, Nat.reduceEqDiff, Nat.reduceAdd, Nat.reduceMul, Nat.reduceSub, Nat.reduceLT, Nat.reduceLeDiff, Int.reduceToNat, Int.reduceLT, Int.reduceLE, Int.reduceEq, Int.reduceAdd, Int.reduceSub, Int.reduceMul, Int.toNat_natCast, reduceCtorEq, decide_true, decide_false, IntWalk.i64_in, IntWalk.u64_in, IntWalk.u8_in, ha1, ha3, ha4, ha5, o1, hat, hx0, hxn]
          refine ⟨_, by omega, j + 1, by omega, rfl, fun k hk' => ?_, rfl⟩
          by_cases hke : k = i * 5 + j
          · rw [hke, ← hx, decide_eq_true_eq]; omega
          · exact hall k (by omega)
    · have hj' : j = 5 := by omega
      simp (disch := omega) only [go_sem, ↓IntWalk.iteOmega, IntWalk.toNatUp, Nat.reduceEqDiff, Nat.reduceAdd, Nat.reduceMul, Nat.reduceSub, Nat.reduceLT, Nat.reduceLeDiff, Int.reduceToNat, Int.reduceLT, Int.reduceLE, Int.reduceEq, Int.reduceAdd, Int.reduceSub, Int.reduceMul, Int.toNat_natCast, reduceCtorEq, decide_true, decide_false, IntWalk.i64_in, IntWalk.u64_in, IntWalk.u8_in, ha1, ha3, ha4, ha5, o1]
      exact ⟨_, by omega, i + 1, by omega, rfl, fun k hk => hall k (by omega), rfl⟩
  · rw [all_all (fun k hk => hall k (by omega))]
    simp (disch := omega) only [go_sem, ↓IntWalk.iteOmega, IntWalk.toNatUp, Nat.reduceEqDiff, Nat.reduceAdd, Nat.reduceMul, Nat.reduceSub, Nat.reduceLT, Nat.reduceLeDiff, Int.reduceToNat, Int.reduceLT, Int.reduceLE, Int.reduceEq, Int.reduceAdd, Int.reduceSub, Int.reduceMul, Int.toNat_natCast, reduceCtorEq, decide_true, decide_false, IntWalk.i64_in, IntWalk.u64_in, IntWalk.u8_in, ha1, ha3, ha4, o1]
theorem dchk_ok (n : Nat) (N : List Int) (A : List Bool) (hN : N.length = 5 * n) : Ok Tryd.prog 15 [dfaV n N A] (.bool (chkD n N A)) := by
  refine ok_of_WP (E := EX md0 XStD) (cr := noR) XStD_ok (noR_ok _) mixed (k := 2002) Tryd.func15 lookChkD rfl ?_
  simp only [Tryd.f15, Option.getD_some]
  unfold chkD
  have hst := XStD_eq n N A
  by_cases h1 : (n : Int) < 1
  · rw [decide_eq_false (by omega), Bool.false_and]
    simp (disch := omega) only [go_sem, ↓IntWalk.iteOmega, IntWalk.toNatUp, Nat.reduceEqDiff, Nat.reduceAdd, Nat.reduceMul, Nat.reduceSub, Nat.reduceLT, Nat.reduceLeDiff, Int.reduceToNat, Int.reduceLT, Int.reduceLE, Int.reduceEq, Int.reduceAdd, Int.reduceSub, Int.reduceMul, Int.toNat_natCast, reduceCtorEq, decide_true, decide_false, IntWalk.i64_in, IntWalk.u64_in, IntWalk.u8_in, h1]
  by_cases h2 : (2000 : Int) < n
  · rw [decide_eq_false (by omega), Bool.false_and]
    simp (disch := omega) only [go_sem, ↓IntWalk.iteOmega, IntWalk.toNatUp, Nat.reduceEqDiff, Nat.reduceAdd, Nat.reduceMul, Nat.reduceSub, Nat.reduceLT, Nat.reduceLeDiff, Int.reduceToNat, Int.reduceLT, Int.reduceLE, Int.reduceEq, Int.reduceAdd, Int.reduceSub, Int.reduceMul, Int.toNat_natCast, reduceCtorEq, decide_true, decide_false, IntWalk.i64_in, IntWalk.u64_in, IntWalk.u8_in, h1, h2]
  by_cases h3' : ¬ (A.length : Int) = n
  · have h3 := h3'
    rw [decide_eq_false (by omega), Bool.false_and]
    simp (disch := omega) only [go_sem, ↓IntWalk.iteOmega, IntWalk.toNatUp, Nat.reduceEqDiff, Nat.reduceAdd, Nat.reduceMul, Nat.reduceSub, Nat.reduceLT, Nat.reduceLeDiff, Int.reduceToNat, Int.reduceLT, Int.reduceLE, Int.reduceEq, Int.reduceAdd, Int.reduceSub, Int.reduceMul, Int.toNat_natCast, reduceCtorEq, decide_true, decide_false, IntWalk.i64_in, IntWalk.u64_in, IntWalk.u8_in, h1, h2, h3]
  have h3 : (A.length : Int) = n := Decidable.not_not.1 h3'
  rw [decide_eq_true (by omega), Bool.true_and]
  simp (disch := omega) only [go_sem, ↓IntWalk.iteOmega, IntWalk.toNatUp, Nat.reduceEqDiff, Nat.reduceAdd, Nat.reduceMul, Nat.reduceSub, Nat.reduceLT, Nat.reduceLeDiff, Int.reduceToNat, Int.reduceLT, Int.reduceLE, Int.reduceEq, Int.reduceAdd, Int.reduceSub, Int.reduceMul, Int.toNat_natCast, reduceCtorEq, decide_true, decide_false, IntWalk.i64_in, IntWalk.u64_in, IntWalk.u8_in, h1, h2, h3]
  refine WP_loop (fun m a o nx => ∃ i : Nat, i ≤ n ∧ m = n - i ∧ 1 ≤ nx ∧ (∀ k, k < i * 5 → decide (0 ≤ N.getD k 0 ∧ N.getD k 0 < (n : Int)) = true) ∧ a 1 = .ptr (0, 1) (0, 1) 0 ∧ a 3 = .fn (.func 32) [] [] ∧ a 28 = .sl n (cI N) ∧ a 29 = .int .i64 n ∧ a 30 = .int .i64 i ∧ o (0, 1) = some (.row ⟨25, 1, (0, 1), false, true, [.sl n (cI N), slB A]⟩)) n (by omega) ⟨0, by omega, by omega, by omega, fun k hk => by omega, by simp (disch := omega) only [go_sem, ↓IntWalk.iteOmega, IntWalk.toNatUp, Nat.reduceEqDiff, Nat.reduceAdd, Nat.reduceMul, Nat.reduceSub, Nat.reduceLT, Nat.reduceLeDiff, Int.reduceToNat, Int.reduceLT, Int.reduceLE, Int.reduceEq, Int.reduceAdd, Int.reduceSub, Int.reduceMul, Int.toNat_natCast, reduceCtorEq, decide_true, decide_false, IntWalk.i64_in, IntWalk.u64_in, IntWalk.u8_in], by simp (disch := omega) only [go_sem, ↓IntWalk.iteOmega, IntWalk.toNatUp, Nat.reduceEqDiff, Nat.reduceAdd, Nat.reduceMul, Nat.reduceSub, Nat.reduceLT, Nat.reduceLeDiff, Int.reduceToNat, Int.reduceLT, Int.reduceLE, Int.reduceEq, Int.reduceAdd, Int.reduceSub, Int.reduceMul, Int.toNat_natCast, reduceCtorEq, decide_true, decide_false, IntWalk.i64_in, IntWalk.u64_in, IntWalk.u8_in], by simp (disch := omega) only [go_sem, ↓IntWalk.iteOmega, IntWalk.toNatUp, Nat.reduceEqDiff, Nat.reduceAdd, Nat.reduceMul, Nat.reduceSub, Nat.reduceLT, Nat.reduceLeDiff, Int.reduceToNat, Int.reduceLT, Int.reduceLE, Int.reduceEq, Int.reduceAdd, Int.reduceSub, Int.reduceMul, Int.toNat_natCast, reduceCtorEq, decide_true, decide_false, IntWalk.i64_in, IntWalk.u64_in, IntWalk.u8_in], by simp (disch := omega) only [go_sem, ↓IntWalk.iteOmega, IntWalk.toNatUp, Nat.reduceEqDiff, Nat.reduceAdd, Nat.reduceMul, Nat.reduceSub, Nat.reduceLT, Nat.reduceLeDiff, Int.reduceToNat, Int.reduceLT, Int.reduceLE, Int.reduceEq, Int.reduceAdd, Int.reduceSub, Int.reduceMul, Int.toNat_natCast, reduceCtorEq, decide_true, decide_false, IntWalk.i64_in, IntWalk.u64_in, IntWalk.u8_in], by simp (disch := omega) only [go_sem, ↓IntWalk.iteOmega, IntWalk.toNatUp, Nat.reduceEqDiff, Nat.reduceAdd, Nat.reduceMul, Nat.reduceSub, Nat.reduceLT, Nat.reduceLeDiff, Int.reduceToNat, Int.reduceLT, Int.reduceLE, Int.reduceEq, Int.reduceAdd, Int.reduceSub, Int.reduceMul, Int.toNat_natCast, reduceCtorEq, decide_true, decide_false, IntWalk.i64_in, IntWalk.u64_in, IntWalk.u8_in], by simp [upd_app]⟩ ?_
  rintro m a o nx ⟨i, hi, rfl, hnx, hall, ha1, ha3, ha28, ha29, ha30, o1⟩
  by_cases hlt : i < n
  · have hl5 : ((cI N).drop (i * 5)).length = N.length - i * 5 := by rw [List.length_drop, cI_length]
    have hrow : ∀ j, j < 5 → take1 false 1 ((((cI N).drop (i * 5)).take 5).drop j) = some (.int .i64 (N.getD (i * 5 + j) 0)) := fun j hj => by
      rw [List.drop_take, List.drop_drop]
      have hk : i * 5 + j < N.length := by omega
      have := cI_get (s := 1) hk
      cases hd : (cI N).drop (i * 5 + j) with
      | nil => rw [hd] at this; cases this
      | cons y l =>
        rw [hd] at this
        obtain ⟨d, hd'⟩ : ∃ d, 5 - j = d + 1 := ⟨4 - j, by omega⟩
        rw [hd']
        exact this
    have htl : (((cI N).drop (i * 5)).take 5).length = 5 := by rw [List.length_take, hl5]; omega
    have hok : (((cI N).drop (i * 5)).take 5).all cellOk = true := by rw [cI_drop, cI_take]; exact cI_ok _
    have htt : (((cI N).drop (i * 5)).take 5).take 5 = ((cI N).drop (i * 5)).take 5 := take_len htl
    obtain ⟨row, hrw⟩ : ∃ row, row = ((cI N).drop (i * 5)).take 5 := ⟨_, rfl⟩
    rw [← hrw] at hrow htl hok htt
    have hrw' := hrw.symm
    simp (disch := omega) only [go_sem, ↓IntWalk.iteOmega, IntWalk.toNatUp, Nat.reduceEqDiff, Nat.reduceAdd, Nat.reduceMul, Nat.reduceSub, Nat.reduceLT, Nat.reduceLeDiff, Int.reduceToNat, Int.reduceLT, Int.reduceLE, Int.reduceEq, Int.reduceAdd, Int.reduceSub, Int.reduceMul, Int.toNat_natCast, reduceCtorEq, decide_true, decide_false, IntWalk.i64_in, IntWalk.u64_in, IntWalk.u8_in, ha1, ha3, ha28, ha29, ha30, o1, hl5, hrw', htl, hok, htt]
    refine WP_loop (fun m' a o nx => ∃ j : Nat, j ≤ 5 ∧ m' = 5 - j ∧ 1 ≤ nx ∧ (∀ k, k < i * 5 + j → decide (0 ≤ N.getD k 0 ∧ N.getD k 0 < (n : Int)) = true) ∧ a 1 = .ptr (0, 1) (0, 1) 0 ∧ a 3 = .fn (.func 32) [] [] ∧ a 28 = .sl n (cI N) ∧ a 29 = .int .i64 n ∧ a 30 = .int .i64 i ∧ a 34 = .agg row ∧ a 35 = .int .i64 j ∧ o (0, 1) = some (.row ⟨25, 1, (0, 1), false, true, [.sl n (cI N), slB A]⟩)) 5 (by omega) ⟨0, by omega, by omega, by omega, hall, by simp (disch := omega) only [go_sem, ↓IntWalk.iteOmega, IntWalk.toNatUp, Nat.reduceEqDiff, Nat.reduceAdd, Nat.reduceMul, Nat.reduceSub, Nat.reduceLT, Nat.reduceLeDiff, Int.reduceToNat, Int.reduceLT, Int.reduceLE, Int.reduceEq, Int.reduceAdd, Int.reduceSub, Int.reduceMul, Int.toNat_natCast, reduceCtorEq, decide_true, decide_false, IntWalk.i64_in, IntWalk.u64_in, IntWalk.u8_in, ha1], by simp (disch := omega) only [go_sem, ↓IntWalk.iteOmega, IntWalk.toNatUp, Nat.reduceEqDiff, Nat.reduceAdd, Nat.reduceMul, Nat.reduceSub, Nat.reduceLT, Nat.reduceLeDiff, Int.reduceToNat, Int.reduceLT, Int.reduceLE, Int.reduceEq, Int.reduceAdd, Int.reduceSub, Int.reduceMul, Int.toNat_natCast, reduceCtorEq, decide_true, decide_false, IntWalk.i64_in, IntWalk.u64_in, IntWalk.u8_in, ha3], by simp (disch := omega) only [go_sem, ↓IntWalk.iteOmega, IntWalk.toNatUp, Nat.reduceEqDiff, Nat.reduceAdd, Nat.reduceMul, Nat.reduceSub, Nat.reduceLT, Nat.reduceLeDiff, Int.reduceToNat, Int.reduceLT, Int.reduceLE, Int.reduceEq, Int.reduceAdd, Int.reduceSub, Int.reduceMul, Int.toNat_natCast, reduceCtorEq, decide_true, decide_false, IntWalk.i64_in, IntWalk.u64_in, IntWalk.u8_in, ha28], by simp (disch := omega) only [go_sem, ↓IntWalk.iteOmega, IntWalk.toNatUp, Nat.reduceEqDiff, Nat.reduceAdd, Nat.reduceMul, Nat.reduceSub, Nat.reduceLT, Nat.reduceLeDiff, Int.reduceToNat, Int.reduceLT, Int.reduceLE, Int.reduceEq, Int.reduceAdd, Int.reduceSub, Int.reduceMul, Int.toNat_natCast, reduceCtorEq, decide_true, decide_false, IntWalk.i64_in, IntWalk.u64_in, IntWalk.u8_in, ha29], by simp (disch := omega) only [go_sem, ↓IntWalk.iteOmega, IntWalk.toNatUp, Nat.reduceEqDiff, Nat.reduceAdd, Nat.reduceMul, Nat.reduceSub, Nat.reduceLT, Nat.reduceLeDiff, Int.reduceToNat, Int.reduceLT, Int.reduceLE, Int.reduceEq, Int.reduceAdd, Int.reduceSub, Int.reduceMul, Int.toNat_natCast, reduceCtorEq, decide_true, decide_false, IntWalk.i64_in, IntWalk.u64_in, IntWalk.u8_in, ha30], by simp (disch := omega) only [go_sem, ↓IntWalk.iteOmega, IntWalk.toNatUp, Nat.reduceEqDiff, Nat.reduceAdd, Nat.reduceMul, Nat.reduceSub, Nat.reduceLT, Nat.reduceLeDiff, Int.reduceToNat, Int.reduceLT, Int.reduceLE, Int.reduceEq, Int.reduceAdd, Int.reduceSub, Int.reduceMul, Int.toNat_natCast, reduceCtorEq, decide_true, decide_false, IntWalk.i64_in, IntWalk.u64_in, IntWalk.u8_in], by simp (disch := omega) only [go_sem, ↓IntWalk.iteOmega, IntWalk.toNatUp, Nat.reduceEqDiff, Nat.reduceAdd, Nat.reduceMul, Nat.reduceSub, Nat.reduceLT, Nat.reduceLeDiff, Int.reduceToNat, Int.reduceLT, Int.reduceLE, Int.reduceEq, Int.reduceAdd, Int.reduceSub, Int.reduceMul, Int.toNat_natCast, reduceCtorEq, decide_true, decide_false, IntWalk.i64_in, IntWalk.u64_in, IntWalk.u8_in], by simp (disch := omega) [upd_fst, o1]⟩ ?_
    clear ha1 ha3 ha28 ha29 ha30 o1 hnx
    rintro m' a o nx ⟨j, hj, rfl, hnx, hall, ha1, ha3, ha28, ha29, ha30, ha34, ha35, o1⟩
    by_cases hj5 : j < 5
    · have hk : i * 5 + j < N.length := by omega
      have hat := hrow j hj5
      obtain ⟨x, hx⟩ : ∃ x, x = N.getD (i * 5 + j) 0 := ⟨_, rfl⟩
      rw [← hx] at hat
      have hsx := hst x
      by_cases hin : 0 ≤ x ∧ x < (n : Int)
      · rw [decide_eq_true hin] at hsx
        simp (disch := omega) only [go_sem, ↓IntWalk.iteOmega, IntWalk.toNatUp, Nat.reduceEqDiff, Nat.reduceAdd, Nat.reduceMul, Nat.reduceSub, Nat.reduceLT, Nat.reduceLeDiff, Int.reduceToNat, Int.reduceLT, Int.reduceLE, Int.reduceEq, Int.reduceAdd, Int.reduceSub, Int.reduceMul, Int.toNat_natCast, reduceCtorEq, decide_true, decide_false, IntWalk.i64_in, IntWalk.u64_in, IntWalk.u8_in, ha1, ha3, ha28, ha29, ha30, ha34, ha35, o1, hat, hsx]
        refine ⟨_, by omega, j + 1, by omega, rfl, fun k hk' => ?_, rfl⟩
        by_cases hke : k = i * 5 + j
        · rw [hke, ← hx, decide_eq_true_eq]; omega
        · exact hall k (by omega)
      · rw [decide_eq_false hin] at hsx
        rw [all_not hk (by rw [← hx, decide_eq_false_iff_not]; omega)]
        simp (disch := omega) only [go_sem, ↓IntWalk.iteOmega, IntWalk.toNatUp, Nat.reduceEqDiff, Nat.reduceAdd, Nat.reduceMul, Nat.reduceSub, Nat.reduceLT, Nat.reduceLeDiff, Int.reduceToNat, Int.reduceLT, Int.reduceLE, Int.reduceEq, Int.reduceAdd, Int.reduceSub, Int.reduceMul, Int.toNat_natCast, reduceCtorEq, decide_true, decide_false, IntWalk.i64_in, IntWalk.u64_in, IntWalk.u8_in, ha1, ha3, ha28, ha29, ha30, ha34, ha35, o1, hat, hsx]
    · have hj' : j = 5 := by omega
      simp (disch := omega) only [go_sem, ↓IntWalk.iteOmega, IntWalk.toNatUp, Nat.reduceEqDiff, Nat.reduceAdd, Nat.reduceMul, Nat.reduceSub, Nat.reduceLT, Nat.reduceLeDiff, Int.reduceToNat, Int.reduceLT, Int.reduceLE, Int.reduceEq, Int.reduceAdd, Int.reduceSub, Int.reduceMul, Int.toNat_natCast, reduceCtorEq, decide_true, decide_false, IntWalk.i64_in, IntWalk.u64_in, IntWalk.u8_in, ha1, ha3, ha28, ha29, ha30, ha34, ha35, o1]
      exact ⟨_, by omega, i + 1, by omega, rfl, fun k hk => hall k (by omega), rfl⟩
  · rw [all_all (fun k hk => hall k (by omega))]
    simp (disch := omega) only [go_sem, ↓IntWalk.iteOmega, IntWalk.toNatUp, Nat.reduceEqDiff, Nat.reduceAdd, Nat.reduceMul, Nat.reduceSub, Nat.reduceLT, Nat.reduceLeDiff, Int.reduceToNat, Int.reduceLT, Int.reduceLE, Int.reduceEq, Int.reduceAdd, Int.reduceSub, Int.reduceMul, Int.toNat_natCast, reduceCtorEq, decide_true, decide_false, IntWalk.i64_in, IntWalk.u64_in, IntWalk.u8_in, ha1, ha3, ha28, ha29, ha30, o1]
end Go.Proofs.YtbapebepmbikhaaDoor.A
/- law7.Make: machines of one way, of numbers. -/
namespace Go.Proofs.YtbapebepmbikhaaDoor.A
open Go
set_option maxRecDepth 20000
def size7 (size : Int) : Nat := (1 + size % 9).toNat
theorem size7_in (size : Int) : 1 ≤ size7 size ∧ size7 size ≤ 9 ∧ (size7 size : Int) = 1 + size % 9 := by
  have h1 := Int.emod_nonneg size (show (9 : Int) ≠ 0 by decide)
  have h2 := Int.emod_lt_of_pos size (show (0 : Int) < 9 by decide)
  unfold size7; omega
/-- Where a state leads by a mode: by number. -/
def ent7 (n : Nat) (ns : List Int) (acc : Int) (k : Nat) : Int := if k < ns.length then ns.getD k 0 % n else IntKind.i64.wrap ((k / 5 : Nat) + IntKind.i64.wrap ((k % 5 : Nat) * acc)) % n
def next7 (n : Nat) (ns : List Int) (acc : Int) (i : Nat) : List Int := (List.range (i * 5)).map (ent7 n ns acc)
def acc7 (acc : Int) (i : Nat) : Bool := decide (acc.fdiv (2 ^ min i 64) % 2 = 1)
def accs7 (acc : Int) (i : Nat) : List Bool := (List.range i).map (acc7 acc)
def row7 (n : Nat) (ns : List Int) (acc : Int) (i m : Nat) : List Int := (List.range 5).map fun j => if j < m then ent7 n ns acc (i * 5 + j) else 0
theorem next7_len (n ns acc i) : (next7 n ns acc i).length = i * 5 := by simp [next7]
theorem accs7_len (acc i) : (accs7 acc i).length = i := by simp [accs7]
theorem row7_len (n ns acc i m) : (row7 n ns acc i m).length = 5 := by simp [row7]
theorem row7_zero (n ns acc i) : row7 n ns acc i 0 = [0, 0, 0, 0, 0] := by simp [row7]; decide
theorem row7_set (n ns acc i) {m : Nat} (h : m < 5) : (row7 n ns acc i m).set m (ent7 n ns acc (i * 5 + m)) = row7 n ns acc i (m + 1) := by
  refine List.ext_getElem (by simp [row7]) fun j h1 h2 => ?_
  simp only [row7, List.getElem_set, List.getElem_map, List.getElem_range]
  by_cases hj : m = j
  · subst hj; simp
  · rw [if_neg hj]
    by_cases hjm : j < m
    · rw [if_pos hjm, if_pos (by omega)]
    · rw [if_neg hjm, if_neg (by omega)]
theorem next7_succ (n ns acc i) : next7 n ns acc (i + 1) = next7 n ns acc i ++ row7 n ns acc i 5 := by
  have : (i + 1) * 5 = i * 5 + 5 := by omega
  rw [next7, this, List.range_add, List.map_append, List.map_map]
  congr 1
theorem accs7_succ (acc i) : accs7 acc (i + 1) = accs7 acc i ++ [acc7 acc i] := by
  rw [accs7, List.range_succ, List.map_append]; rfl
theorem wf7 (size : Int) (ns : List Int) (acc : Int) : WfD (size7 size) (next7 (size7 size) ns acc (size7 size)) (accs7 acc (size7 size)) := by
  obtain ⟨h1, h2, _⟩ := size7_in size
  refine ⟨⟨h1, by omega⟩, by rw [next7_len]; omega, accs7_len .., fun x hx => ?_⟩
  obtain ⟨k, _, rfl⟩ := List.mem_map.1 hx
  have hp : (0 : Int) < size7 size := by omega
  unfold ent7
  split <;> exact ⟨Int.emod_nonneg _ (by omega), Int.emod_lt_of_pos _ hp⟩
noncomputable def XW7 : FuncId → List AV → Option AV := tabLook [(17, tRel RW)]
theorem XW7_ok : CPSound Tryd.prog XW7 := tab_cons (tab_nil _) (tRel_ok within3_ok)
theorem XW7_eq (a n : Int) (h1 : 0 < n) (h2 : n ≤ 1000000) : XW7 17 [.int .i64 a, .int .i64 n] = some (.int .i64 (a % n)) := rw_eq h1 h2
def nz7 (id : Nat) : Option (List (Nat × Nat)) := if id = 15 then some [(1, 4), (1, 8)] else none
theorem HS.of {e sz D o nx j g n cs} (hj : j < nx) (h : o (j, D) = some (.row ⟨e, sz, g, false, true, cs⟩)) (hl : cs.length = n * sz) : HS e sz D o nx (.ref (j, D) g 0 n) n cs := .inr ⟨j, g, rfl, hj, h, hl⟩
theorem HS.of1 {e sz D o nx j g m n cs} (hm : m = n) (hj : j < nx) (h : o (j, D) = some (.row ⟨e, sz, g, false, true, cs⟩)) (hl : cs.length = n * sz) : HS e sz D o nx (.ref (j, D) g 0 m) n cs := by subst hm; exact HS.of hj h hl
theorem look7M (X) : lookedAt (EX md0 X) nz7 3 Tryd.f14 = true := by kernel_rfl
structure Made7 (o0 : Ob) (nx0 : Nat) (n : Nat) (ns : List Int) (acc : Int) (i : Nat) (vN vA : AV) (o : Ob) (nx : Nat) : Prop where
  le : nx0 ≤ nx
  n : HS 31 5 54 o nx vN i (cI (next7 n ns acc i))
  a : HS 4 1 65 o nx vA i (cB (accs7 acc i))
  keep : ∀ i j, i < nx0 → o (i, j) = o0 (i, j)
  ln : ∀ i g k, vN = .ref (i, 54) g 0 k → nx0 ≤ i
  la : ∀ i g k, vA = .ref (i, 65) g 0 k → nx0 ≤ i
theorem make7_wp (cr) (size : Int) (ns : List Int) (acc : Int) (o0 : Ob) (nx0 : Nat) :
    WP (EX md0 XW7) cr 20 nz7 (Tryd.f14.body.getD .skip) (begin_ [.int .i64 size, slI ns, .int .i64 acc]) o0 nx0 (fun u a o nx => u = .ret ∧ ∃ vN vA, Made7 o0 nx0 (size7 size) ns acc (size7 size) vN vA o nx ∧
      a 6 = .ptr (nx0, 6) (nx0, 6) 0 ∧ o (nx0, 6) = some (.row ⟨25, 1, (nx0, 6), false, true, [vN, vA]⟩)) := by
  have hX := XW7_eq
  obtain ⟨hN1, hN9, hsz⟩ := size7_in size
  simp only [Tryd.f14, Option.getD_some]
  generalize size7 size = n at hN1 hN9 hsz
  simp (disch := omega) only [go_sem, ↓IntWalk.iteOmega, IntWalk.toNatUp, Nat.reduceEqDiff, Nat.reduceAdd, Nat.reduceMul, Nat.reduceSub, Nat.reduceLT, Nat.reduceLeDiff, Int.reduceToNat, Int.reduceLT, Int.reduceLE, Int.reduceEq, Int.reduceAdd, Int.reduceSub, Int.reduceMul, Int.toNat_natCast, reduceCtorEq, decide_true, decide_false, IntWalk.i64_in, IntWalk.u64_in, IntWalk.u8_in, nz7, hX, hsz.symm]
  refine WP_loop (fun m a o nx => ∃ i vN vA, i ≤ n ∧ m = n - i ∧ nx0 + 2 ≤ nx ∧ a 1 = slI ns ∧ a 2 = .int .i64 acc ∧ a 6 = .ptr (nx0, 6) (nx0, 6) 0 ∧ a 7 = .ptr (nx0 + 1, 7) (nx0 + 1, 7) 0 ∧ a 8 = .int .i64 n ∧ a 9 = .int .i64 i ∧
    Made7 o0 nx0 n ns acc i vN vA o nx ∧ o (nx0 + 1, 7) = some (.row ⟨25, 1, (nx0 + 1, 7), false, true, [vN, vA]⟩) ∧
    o (nx0, 6) = some (.row ⟨25, 1, (nx0, 6), false, true, [.nil, .nil]⟩)) n (by omega) ⟨0, .nil, .nil, by omega, by omega, by omega, by simp (disch := omega) only [go_sem, ↓IntWalk.iteOmega, IntWalk.toNatUp, Nat.reduceEqDiff, Nat.reduceAdd, Nat.reduceMul, Nat.reduceSub, Nat.reduceLT, Nat.reduceLeDiff, Int.reduceToNat, Int.reduceLT, Int.reduceLE, Int.reduceEq, Int.reduceAdd, Int.reduceSub, Int.reduceMul, Int.toNat_natCast, reduceCtorEq, decide_true, decide_false, IntWalk.i64_in, IntWalk.u64_in, IntWalk.u8_in], by simp (disch := omega) only [go_sem, ↓IntWalk.iteOmega, IntWalk.toNatUp, Nat.reduceEqDiff, Nat.reduceAdd, Nat.reduceMul, Nat.reduceSub, Nat.reduceLT, Nat.reduceLeDiff, Int.reduceToNat, Int.reduceLT, Int.reduceLE, Int.reduceEq, Int.reduceAdd, Int.reduceSub, Int.reduceMul, Int.toNat_natCast, reduceCtorEq, decide_true, decide_false, IntWalk.i64_in, IntWalk.u64_in, IntWalk.u8_in], by simp (disch := omega) only [go_sem, ↓IntWalk.iteOmega, IntWalk.toNatUp, Nat.reduceEqDiff, Nat.reduceAdd, Nat.reduceMul, Nat.reduceSub, Nat.reduceLT, Nat.reduceLeDiff, Int.reduceToNat, Int.reduceLT, Int.reduceLE, Int.reduceEq, Int.reduceAdd, Int.reduceSub, Int.reduceMul, Int.toNat_natCast, reduceCtorEq, decide_true, decide_false, IntWalk.i64_in, IntWalk.u64_in, IntWalk.u8_in], by simp (disch := omega) only [go_sem, ↓IntWalk.iteOmega, IntWalk.toNatUp, Nat.reduceEqDiff, Nat.reduceAdd, Nat.reduceMul, Nat.reduceSub, Nat.reduceLT, Nat.reduceLeDiff, Int.reduceToNat, Int.reduceLT, Int.reduceLE, Int.reduceEq, Int.reduceAdd, Int.reduceSub, Int.reduceMul, Int.toNat_natCast, reduceCtorEq, decide_true, decide_false, IntWalk.i64_in, IntWalk.u64_in, IntWalk.u8_in], by simp (disch := omega) only [go_sem, ↓IntWalk.iteOmega, IntWalk.toNatUp, Nat.reduceEqDiff, Nat.reduceAdd, Nat.reduceMul, Nat.reduceSub, Nat.reduceLT, Nat.reduceLeDiff, Int.reduceToNat, Int.reduceLT, Int.reduceLE, Int.reduceEq, Int.reduceAdd, Int.reduceSub, Int.reduceMul, Int.toNat_natCast, reduceCtorEq, decide_true, decide_false, IntWalk.i64_in, IntWalk.u64_in, IntWalk.u8_in], by simp (disch := omega) only [go_sem, ↓IntWalk.iteOmega, IntWalk.toNatUp, Nat.reduceEqDiff, Nat.reduceAdd, Nat.reduceMul, Nat.reduceSub, Nat.reduceLT, Nat.reduceLeDiff, Int.reduceToNat, Int.reduceLT, Int.reduceLE, Int.reduceEq, Int.reduceAdd, Int.reduceSub, Int.reduceMul, Int.toNat_natCast, reduceCtorEq, decide_true, decide_false, IntWalk.i64_in, IntWalk.u64_in, IntWalk.u8_in], ⟨by omega, HS.nil, HS.nil, fun i j h => by simp (disch := omega) only [upd_fst], fun i g n h => (by cases h), fun i g n h => (by cases h)⟩, by simp [upd_app], by simp [upd_app]⟩ ?_
  rintro m a o nx ⟨i, vN, vA, hi, rfl, hnx, h1, h2, h6, h7, h8, h9, hM, ho7, ho6⟩
  obtain ⟨hle, hHN, hHA, hkeep, hln, hla⟩ := hM
  have hokN := hHN.ok
  have hokA := hHA.ok
  by_cases hlt : i < n
  · simp (disch := omega) only [go_sem, ↓IntWalk.iteOmega, IntWalk.toNatUp, Nat.reduceEqDiff, Nat.reduceAdd, Nat.reduceMul, Nat.reduceSub, Nat.reduceLT, Nat.reduceLeDiff, Int.reduceToNat, Int.reduceLT, Int.reduceLE, Int.reduceEq, Int.reduceAdd, Int.reduceSub, Int.reduceMul, Int.toNat_natCast, reduceCtorEq, decide_true, decide_false, IntWalk.i64_in, IntWalk.u64_in, IntWalk.u8_in, h1, h2, h6, h7, h8, h9, ho7, ho6]
    refine WP_loop (fun m' a o' nx' => ∃ j : Nat, j ≤ 5 ∧ m' = 5 - j ∧ nx + 1 ≤ nx' ∧ a 1 = slI ns ∧ a 2 = .int .i64 acc ∧ a 6 = .ptr (nx0, 6) (nx0, 6) 0 ∧ a 7 = .ptr (nx0 + 1, 7) (nx0 + 1, 7) 0 ∧ a 8 = .int .i64 n ∧ a 9 = .int .i64 i ∧ a 10 = .ptr (nx + 1, 10) (nx + 1, 10) 0 ∧ a 11 = .int .i64 j ∧ o' (nx + 1, 10) = some (.row ⟨31, 1, (nx + 1, 10), false, true, cI (row7 n ns acc i j)⟩) ∧ (∀ i' j', i' < nx → o' (i', j') = o (i', j')) ∧ nx + 2 ≤ nx') 5 (by omega) ⟨0, by omega, by omega, by omega, by simp (disch := omega) only [go_sem, ↓IntWalk.iteOmega, IntWalk.toNatUp, Nat.reduceEqDiff, Nat.reduceAdd, Nat.reduceMul, Nat.reduceSub, Nat.reduceLT, Nat.reduceLeDiff, Int.reduceToNat, Int.reduceLT, Int.reduceLE, Int.reduceEq, Int.reduceAdd, Int.reduceSub, Int.reduceMul, Int.toNat_natCast, reduceCtorEq, decide_true, decide_false, IntWalk.i64_in, IntWalk.u64_in, IntWalk.u8_in, h1], by simp (disch := omega) only [go_sem, ↓IntWalk.iteOmega, IntWalk.toNatUp, Nat.reduceEqDiff, Nat.reduceAdd, Nat.reduceMul, Nat.reduceSub, Nat.reduceLT, Nat.reduceLeDiff, Int.reduceToNat, Int.reduceLT, Int.reduceLE, Int.reduceEq, Int.reduceAdd, Int.reduceSub, Int.reduceMul, Int.toNat_natCast, reduceCtorEq, decide_true, decide_false, IntWalk.i64_in, IntWalk.u64_in, IntWalk.u8_in, h2], by simp (disch := omega) only [go_sem, ↓IntWalk.iteOmega, IntWalk.toNatUp, Nat.reduceEqDiff, Nat.reduceAdd, Nat.reduceMul, Nat.reduceSub, Nat.reduceLT, Nat.reduceLeDiff, Int.reduceToNat, Int.reduceLT, Int.reduceLE, Int.reduceEq, Int.reduceAdd, Int.reduceSub, Int.reduceMul, Int.toNat_natCast, reduceCtorEq, decide_true, decide_false, IntWalk.i64_in, IntWalk.u64_in, IntWalk.u8_in, h6], by simp (disch := omega) only [go_sem, ↓IntWalk.iteOmega, IntWalk.toNatUp, Nat.reduceEqDiff, Nat.reduceAdd, Nat.reduceMul, Nat.reduceSub, Nat.reduceLT, Nat.reduceLeDiff, Int.reduceToNat, Int.reduceLT, Int.reduceLE, Int.reduceEq, Int.reduceAdd, Int.reduceSub, Int.reduceMul, Int.toNat_natCast, reduceCtorEq, decide_true, decide_false, IntWalk.i64_in, IntWalk.u64_in, IntWalk.u8_in, h7], by simp (disch := omega) only [go_sem, ↓IntWalk.iteOmega, IntWalk.toNatUp, Nat.reduceEqDiff, Nat.reduceAdd, Nat.reduceMul, Nat.reduceSub, Nat.reduceLT, Nat.reduceLeDiff, Int.reduceToNat, Int.reduceLT, Int.reduceLE, Int.reduceEq, Int.reduceAdd, Int.reduceSub, Int.reduceMul, Int.toNat_natCast, reduceCtorEq, decide_true, decide_false, IntWalk.i64_in, IntWalk.u64_in, IntWalk.u8_in, h8], by simp (disch := omega) only [go_sem, ↓IntWalk.iteOmega, IntWalk.toNatUp, Nat.reduceEqDiff, Nat.reduceAdd, Nat.reduceMul, Nat.reduceSub, Nat.reduceLT, Nat.reduceLeDiff, Int.reduceToNat, Int.reduceLT, Int.reduceLE, Int.reduceEq, Int.reduceAdd, Int.reduceSub, Int.reduceMul, Int.toNat_natCast, reduceCtorEq, decide_true, decide_false, IntWalk.i64_in, IntWalk.u64_in, IntWalk.u8_in, h9], by simp (disch := omega) only [go_sem, ↓IntWalk.iteOmega, IntWalk.toNatUp, Nat.reduceEqDiff, Nat.reduceAdd, Nat.reduceMul, Nat.reduceSub, Nat.reduceLT, Nat.reduceLeDiff, Int.reduceToNat, Int.reduceLT, Int.reduceLE, Int.reduceEq, Int.reduceAdd, Int.reduceSub, Int.reduceMul, Int.toNat_natCast, reduceCtorEq, decide_true, decide_false, IntWalk.i64_in, IntWalk.u64_in, IntWalk.u8_in], by simp (disch := omega) only [go_sem, ↓IntWalk.iteOmega, IntWalk.toNatUp, Nat.reduceEqDiff, Nat.reduceAdd, Nat.reduceMul, Nat.reduceSub, Nat.reduceLT, Nat.reduceLeDiff, Int.reduceToNat, Int.reduceLT, Int.reduceLE, Int.reduceEq, Int.reduceAdd, Int.reduceSub, Int.reduceMul, Int.toNat_natCast, reduceCtorEq, decide_true, decide_false, IntWalk.i64_in, IntWalk.u64_in, IntWalk.u8_in], by rw [row7_zero]; exact upd_same _ _ _, fun i' j' h => by simp (disch := omega) only [upd_fst], by omega⟩ ?_
    clear h1 h2 h6 h7 h8 h9
    rintro m' a o' nx' ⟨j, hj, rfl, hnx', h1, h2, h6, h7, h8, h9, h10, h11, ho10, hkp, hnx2⟩
    have ho7' := (hkp (nx0 + 1) 7 (by omega)).trans ho7
    have ho6' := (hkp nx0 6 (by omega)).trans ho6
    by_cases hj5 : j < 5
    · have hset := row7_set n ns acc i hj5
      have hlen := row7_len n ns acc i j
      have hsp : ∀ x, splice (cI (row7 n ns acc i j)) j [.int .i64 x] = cI ((row7 n ns acc i j).set j x) := fun x => cI_set _ _ _ (by omega)
      obtain ⟨row, hrow⟩ : ∃ row, row = row7 n ns acc i j := ⟨_, rfl⟩
      rw [← hrow] at ho10 hset hlen hsp
      by_cases hk : i * 5 + j < ns.length
      · have hg := cI_get (s := 1) hk
        have he : ent7 n ns acc (i * 5 + j) = ns.getD (i * 5 + j) 0 % n := if_pos hk
        have hk' : (5 * (i : Int) + j) < ns.length := by omega
        have hkn : (5 * (i : Int) + (j : Int)).toNat = i * 5 + j := by omega
        rw [he] at hset
        have hXx := hX (ns.getD (i * 5 + j) 0) n (by omega) (by omega)
        simp (disch := omega) only [go_sem, ↓IntWalk.iteOmega, IntWalk.toNatUp, Nat.reduceEqDiff, Nat.reduceAdd, Nat.reduceMul, Nat.reduceSub, Nat.reduceLT, Nat.reduceLeDiff, Int.reduceToNat, Int.reduceLT, Int.reduceLE, Int.reduceEq, Int.reduceAdd, Int.reduceSub, Int.reduceMul, Int.toNat_natCast, reduceCtorEq, decide_true, decide_false, IntWalk.i64_in, IntWalk.u64_in, IntWalk.u8_in, h1, h2, h6, h7, h8, h9, h10, h11, ho10, hk', hkn, hg, hXx, hlen, hsp, hset]
        refine ⟨_, by omega, j + 1, by omega, rfl, by omega, rfl, rfl, fun i' j' h => ?_, by omega⟩
        have e : i' ≠ nx + 1 := by omega
        simp [e, hkp i' j' h]
      · have he : ent7 n ns acc (i * 5 + j) = IntKind.i64.wrap ((i : Int) + IntKind.i64.wrap ((j : Int) * acc)) % n := by
          rw [ent7, if_neg hk, show (i * 5 + j) / 5 = i by omega, show (i * 5 + j) % 5 = j by omega]
        have hk' : ¬ (5 * (i : Int) + j) < ns.length := by omega
        rw [he] at hset
        have hXx := hX (IntKind.i64.wrap ((i : Int) + IntKind.i64.wrap ((j : Int) * acc))) n (by omega) (by omega)
        simp (disch := omega) only [go_sem, ↓IntWalk.iteOmega, IntWalk.toNatUp, Nat.reduceEqDiff, Nat.reduceAdd, Nat.reduceMul, Nat.reduceSub, Nat.reduceLT, Nat.reduceLeDiff, Int.reduceToNat, Int.reduceLT, Int.reduceLE, Int.reduceEq, Int.reduceAdd, Int.reduceSub, Int.reduceMul, Int.toNat_natCast, reduceCtorEq, decide_true, decide_false, IntWalk.i64_in, IntWalk.u64_in, IntWalk.u8_in, h1, h2, h6, h7, h8, h9, h10, h11, ho10, hk', hXx, hlen, hsp, hset]
        refine ⟨_, by omega, j + 1, by omega, rfl, by omega, rfl, rfl, fun i' j' h => ?_, by omega⟩
        have e : i' ≠ nx + 1 := by omega
        simp [e, hkp i' j' h]
    · have hj' : j = 5 := by omega
      subst hj'
      have hns := next7_succ n ns acc i
      have hac := accs7_succ acc i
      have hl5 := row7_len n ns acc i 5
      have hrow5 : (cI (row7 n ns acc i 5)).length = 5 := by rw [cI_length, hl5]
      have hXx := hX (acc.fdiv (2 ^ min i 64)) 2 (by omega) (by omega)
      have htk5 : (cI (row7 n ns acc i 5)).take 5 = cI (row7 n ns acc i 5) := take_len hrow5
      have htN : (cI (next7 n ns acc i)).take (i * 5) = cI (next7 n ns acc i) := take_len (by rw [cI_length, next7_len])
      have htA : (cB (accs7 acc i)).take i = cB (accs7 acc i) := take_len (by rw [cB_length, accs7_len])
      have hlN := next7_len n ns acc i
      have hlA := accs7_len acc i
      have hNs : cI (next7 n ns acc (i + 1)) = cI (next7 n ns acc i) ++ cI (row7 n ns acc i 5) := by rw [hns, cI_app]
      have hAs : cB (accs7 acc (i + 1)) = cB (accs7 acc i) ++ [.bool (decide (acc.fdiv (2 ^ min i 64) % 2 = 1))] := by rw [hac, cB_app]; rfl
      have hNl : (cI (next7 n ns acc (i + 1))).length = (i + 1) * 5 := by rw [cI_length, next7_len]
      have hAl : (cB (accs7 acc (i + 1))).length = (i + 1) * 1 := by rw [cB_length, accs7_len]; omega
      rcases hHN with ⟨rfl, e2, e3⟩ | ⟨i1, g1, rfl, hi1, hrowN, hlenN⟩
      · rcases hHA with ⟨rfl, f2, f3⟩ | ⟨i2, g2, rfl, hi2, hrowA, hlenA⟩
        · simp (disch := omega) only [go_sem, ↓IntWalk.iteOmega, IntWalk.toNatUp, Nat.reduceEqDiff, Nat.reduceAdd, Nat.reduceMul, Nat.reduceSub, Nat.reduceLT, Nat.reduceLeDiff, Int.reduceToNat, Int.reduceLT, Int.reduceLE, Int.reduceEq, Int.reduceAdd, Int.reduceSub, Int.reduceMul, Int.toNat_natCast, reduceCtorEq, decide_true, decide_false, IntWalk.i64_in, IntWalk.u64_in, IntWalk.u8_in, h1, h2, h6, h7, h8, h9, h10, h11, ho10, ho7', ho6', hrow5, htk5, hXx, hlN, hlA, nz7]
          have e0 : i = 0 := e2
          refine ⟨_, by omega, i + 1, _, _, by omega, rfl, by omega, rfl, ⟨by omega, HS.of1 (by omega) (by omega) (by rw [hNs, e3]; simp [upd_app]) hNl, HS.of1 (by omega) (by omega) (by rw [hAs, f3]; simp [upd_app]) hAl, fun i' j' h => ?_, fun i' g k h => ?_, fun i' g k h => ?_⟩, rfl⟩
          · simp (disch := omega) only [upd_fst]
            rw [hkp i' j' (by omega), hkeep i' j' h]
          · injection h with h1 h2; injection h1 with h1 h2; omega
          · injection h with h1 h2; injection h1 with h1 h2; omega
        · have hrowA' := (hkp i2 65 (by omega)).trans hrowA
          simp (disch := omega) only [go_sem, ↓IntWalk.iteOmega, IntWalk.toNatUp, Nat.reduceEqDiff, Nat.reduceAdd, Nat.reduceMul, Nat.reduceSub, Nat.reduceLT, Nat.reduceLeDiff, Int.reduceToNat, Int.reduceLT, Int.reduceLE, Int.reduceEq, Int.reduceAdd, Int.reduceSub, Int.reduceMul, Int.toNat_natCast, reduceCtorEq, decide_true, decide_false, IntWalk.i64_in, IntWalk.u64_in, IntWalk.u8_in, h1, h2, h6, h7, h8, h9, h10, h11, ho10, ho7', ho6', hrow5, htk5, hXx, hlN, hlA, nz7, hrowA', htA]
          have hp2 := hla _ _ _ rfl
          have e0 : i = 0 := e2
          refine ⟨_, by omega, i + 1, _, _, by omega, rfl, by omega, rfl, ⟨by omega, HS.of1 (by omega) (by omega) (by rw [hNs, e3]; simp [upd_app]) hNl, HS.of (by omega) (by rw [hAs]; simp [upd_app]) hAl, fun i' j' h => ?_, fun i' g k h => ?_, fun i' g k h => ?_⟩, rfl⟩
          · simp (disch := omega) only [upd_fst]
            rw [hkp i' j' (by omega), hkeep i' j' h]
          · injection h with h1 h2; injection h1 with h1 h2; omega
          · injection h with h1 h2; injection h1 with h1 h2; omega
      · rcases hHA with ⟨rfl, f2, f3⟩ | ⟨i2, g2, rfl, hi2, hrowA, hlenA⟩
        · have hrowN' := (hkp i1 54 (by omega)).trans hrowN
          simp (disch := omega) only [go_sem, ↓IntWalk.iteOmega, IntWalk.toNatUp, Nat.reduceEqDiff, Nat.reduceAdd, Nat.reduceMul, Nat.reduceSub, Nat.reduceLT, Nat.reduceLeDiff, Int.reduceToNat, Int.reduceLT, Int.reduceLE, Int.reduceEq, Int.reduceAdd, Int.reduceSub, Int.reduceMul, Int.toNat_natCast, reduceCtorEq, decide_true, decide_false, IntWalk.i64_in, IntWalk.u64_in, IntWalk.u8_in, h1, h2, h6, h7, h8, h9, h10, h11, ho10, ho7', ho6', hrow5, htk5, hXx, hlN, hlA, nz7, hrowN', htN]
          have hp1 := hln _ _ _ rfl
          have e0 : i = 0 := f2
          refine ⟨_, by omega, i + 1, _, _, by omega, rfl, by omega, rfl, ⟨by omega, HS.of (by omega) (by rw [hNs]; simp [upd_app]) hNl, HS.of1 (by omega) (by omega) (by rw [hAs, f3]; simp [upd_app]) hAl, fun i' j' h => ?_, fun i' g k h => ?_, fun i' g k h => ?_⟩, rfl⟩
          · simp (disch := omega) only [upd_fst]
            rw [hkp i' j' (by omega), hkeep i' j' h]
          · injection h with h1 h2; injection h1 with h1 h2; omega
          · injection h with h1 h2; injection h1 with h1 h2; omega
        · have hrowA' := (hkp i2 65 (by omega)).trans hrowA
          have hrowN' := (hkp i1 54 (by omega)).trans hrowN
          simp (disch := omega) only [go_sem, ↓IntWalk.iteOmega, IntWalk.toNatUp, Nat.reduceEqDiff, Nat.reduceAdd, Nat.reduceMul, Nat.reduceSub, Nat.reduceLT, Nat.reduceLeDiff, Int.reduceToNat, Int.reduceLT, Int.reduceLE, Int.reduceEq, Int.reduceAdd, Int.reduceSub, Int.reduceMul, Int.toNat_natCast, reduceCtorEq, decide_true, decide_false, IntWalk.i64_in, IntWalk.u64_in, IntWalk.u8_in, h1, h2, h6, h7, h8, h9, h10, h11, ho10, ho7', ho6', hrow5, htk5, hXx, hlN, hlA, nz7, hrowN', hrowA', htN, htA]
          have hp1 := hln _ _ _ rfl
          have hp2 := hla _ _ _ rfl
          refine ⟨_, by omega, i + 1, _, _, by omega, rfl, by omega, rfl, ⟨by omega, HS.of (by omega) (by rw [hNs]; simp [upd_app]) hNl, HS.of (by omega) (by rw [hAs]; simp [upd_app]) hAl, fun i' j' h => ?_, fun i' g k h => ?_, fun i' g k h => ?_⟩, rfl⟩
          · simp (disch := omega) only [upd_fst]
            rw [hkp i' j' (by omega), hkeep i' j' h]
          · injection h with h1 h2; injection h1 with h1 h2; omega
          · injection h with h1 h2; injection h1 with h1 h2; omega
  · have hie : i = n := by omega
    subst hie
    simp (disch := omega) only [go_sem, ↓IntWalk.iteOmega, IntWalk.toNatUp, Nat.reduceEqDiff, Nat.reduceAdd, Nat.reduceMul, Nat.reduceSub, Nat.reduceLT, Nat.reduceLeDiff, Int.reduceToNat, Int.reduceLT, Int.reduceLE, Int.reduceEq, Int.reduceAdd, Int.reduceSub, Int.reduceMul, Int.toNat_natCast, reduceCtorEq, decide_true, decide_false, IntWalk.i64_in, IntWalk.u64_in, IntWalk.u8_in, h1, h2, h6, h7, h8, h9, ho7, ho6, hokN, hokA]
    refine ⟨_, _, ⟨by omega, hHN.keep (fun i hi => by simp [upd_app]) (by omega), hHA.keep (fun i hi => by simp [upd_app]) (by omega), fun i' j' h => ?_, hln, hla⟩, rfl⟩
    simp (disch := omega) only [upd_fst]
    exact hkeep i' j' h
end Go.Proofs.YtbapebepmbikhaaDoor.A
/- Words of numbers. -/
namespace Go.Proofs.YtbapebepmbikhaaDoor.A
open Go
set_option maxRecDepth 20000
/-! ### words -/
def wordOf (ns : List Int) (most few : Int) : List Int := (ns.take most.toNat).map fun x => x % (1 + few % 5)
theorem lookWord (X) : lookedAt (EX md0 X) (fun _ => none) 3 Tryd.f18 = true := by kernel_rfl
theorem word_ok (ns : List Int) (most few : Int) (hm : 0 ≤ most ∧ most ≤ 1000) : Ok Tryd.prog 18 [slI ns, .int .i64 most, .int .i64 few] (slI (wordOf ns most few)) := by
  obtain ⟨most, rfl⟩ := Int.eq_ofNat_of_zero_le hm.1
  refine ok_of_WP (E := EX md0 (tabLook [(33, tRel RW)])) (cr := noR) (tab_cons (tab_nil _) (tRel_ok within1_ok)) (noR_ok _) mixed (k := most + 1) Tryd.func18 (lookWord _) rfl ?_
  have h37 : ∀ a n : Int, 0 < n → n ≤ 1000000 → tabLook [(33, tRel RW)] 33 [.int .i64 a, .int .i64 n] = some (.int .i64 (a % n)) := fun a n h1 h2 => rw_eq h1 h2
  have hf0 := Int.emod_nonneg few (show (5 : Int) ≠ 0 by decide)
  have hf5 := Int.emod_lt_of_pos few (show (0 : Int) < 5 by decide)
  simp only [Tryd.f18, Option.getD_some]
  simp (disch := omega) only [go_sem, ↓IntWalk.iteOmega, IntWalk.toNatUp, Nat.reduceEqDiff, Nat.reduceAdd, Nat.reduceMul, Nat.reduceSub, Nat.reduceLT, Nat.reduceLeDiff, Int.reduceToNat, Int.reduceLT, Int.reduceLE, Int.reduceEq, Int.reduceAdd, Int.reduceSub, Int.reduceMul, Int.toNat_natCast, reduceCtorEq, decide_true, decide_false, IntWalk.i64_in, IntWalk.u64_in, IntWalk.u8_in]
  refine WP_loop (fun m a o nx => ∃ i, i ≤ ns.length ∧ i ≤ most ∧ m = most - i ∧ a 0 = slI ns ∧ a 1 = .int .i64 most ∧ a 2 = .int .i64 few ∧ a 8 = .int .i64 i ∧ HS 3 1 30 o nx (a 7) i (cI ((ns.take i).map fun x => x % (1 + few % 5)))) most ?_ ?_ ?_
  · omega
  · refine ⟨0, by omega, by omega, by omega, ?_⟩
    simp (disch := omega) only [go_sem, ↓IntWalk.iteOmega, IntWalk.toNatUp, Nat.reduceEqDiff, Nat.reduceAdd, Nat.reduceMul, Nat.reduceSub, Nat.reduceLT, Nat.reduceLeDiff, Int.reduceToNat, Int.reduceLT, Int.reduceLE, Int.reduceEq, Int.reduceAdd, Int.reduceSub, Int.reduceMul, Int.toNat_natCast, reduceCtorEq, decide_true, decide_false, IntWalk.i64_in, IntWalk.u64_in, IntWalk.u8_in, List.take_zero]
    exact HS.nil
  · rintro m a o nx ⟨i, hi, him, rfl, h0, h1, h2, h8, hHS⟩
    by_cases hlt : i < ns.length
    · by_cases hlm : i < most
      · have hg := cI_get (s := 1) hlt
        have htk := take_succ_getD hlt 0
        generalize ns.getD i 0 = x at hg htk
        generalize hv : a 7 = v at hHS
        rcases hHS with ⟨rfl, e2, e3⟩ | ⟨i1, g1, rfl, hi1, hrow, hlen⟩
        · simp (disch := omega) only [go_sem, ↓IntWalk.iteOmega, IntWalk.toNatUp, Nat.reduceEqDiff, Nat.reduceAdd, Nat.reduceMul, Nat.reduceSub, Nat.reduceLT, Nat.reduceLeDiff, Int.reduceToNat, Int.reduceLT, Int.reduceLE, Int.reduceEq, Int.reduceAdd, Int.reduceSub, Int.reduceMul, Int.toNat_natCast, reduceCtorEq, decide_true, decide_false, IntWalk.i64_in, IntWalk.u64_in, IntWalk.u8_in, h0, h1, h2, h8, hv, hg, h37]
          have e4 : (ns.take i).map (fun x => x % (1 + few % 5)) = [] := cI_inj e3
          refine ⟨_, ?_, i + 1, by omega, by omega, rfl, rfl, .inr ⟨nx + 1, (nx + 1, 30), ?_, by omega, ?_, ?_⟩⟩
          · omega
          · rw [e2]
          · rw [htk, List.map_append, e4]; simp [upd_app, cI]
          · rw [htk, List.map_append, e4, e2]; rfl
        · have hall : (cI ((ns.take i).map fun x => x % (1 + few % 5))).take i = cI ((ns.take i).map fun x => x % (1 + few % 5)) := take_len (by rw [hlen, Nat.mul_one])
          rw [Nat.mul_one] at hlen
          simp (disch := omega) only [go_sem, ↓IntWalk.iteOmega, IntWalk.toNatUp, Nat.reduceEqDiff, Nat.reduceAdd, Nat.reduceMul, Nat.reduceSub, Nat.reduceLT, Nat.reduceLeDiff, Int.reduceToNat, Int.reduceLT, Int.reduceLE, Int.reduceEq, Int.reduceAdd, Int.reduceSub, Int.reduceMul, Int.toNat_natCast, reduceCtorEq, decide_true, decide_false, IntWalk.i64_in, IntWalk.u64_in, IntWalk.u8_in, h0, h1, h2, h8, hv, hg, hrow, h37, hlen, hall]
          refine ⟨_, ?_, i + 1, by omega, by omega, rfl, rfl, .inr ⟨i1, (nx + 1, 30), rfl, by omega, ?_, ?_⟩⟩
          · omega
          · rw [htk, List.map_append, cI_app]; simp [upd_app, cI]
          · rw [htk, List.map_append, cI_app, List.length_append, hlen]; simp [cI]
      · have hie : i = most := by omega
        have hvw := hHS.view 11
        rw [view_cI] at hvw
        simp (disch := omega) only [go_sem, ↓IntWalk.iteOmega, IntWalk.toNatUp, Nat.reduceEqDiff, Nat.reduceAdd, Nat.reduceMul, Nat.reduceSub, Nat.reduceLT, Nat.reduceLeDiff, Int.reduceToNat, Int.reduceLT, Int.reduceLE, Int.reduceEq, Int.reduceAdd, Int.reduceSub, Int.reduceMul, Int.toNat_natCast, reduceCtorEq, decide_true, decide_false, IntWalk.i64_in, IntWalk.u64_in, IntWalk.u8_in, h0, h1, h2, h8, hvw]
        have e : ((ns.take i).map fun x => x % (1 + few % 5)) = wordOf ns most few := by rw [hie]; rfl
        rw [e]
        have : (wordOf ns most few).length = i := by rw [wordOf, List.length_map, List.length_take, Int.toNat_natCast]; omega
        rw [slI, this]
    · have hie : i = ns.length := by omega
      have hvw := hHS.view 11
      rw [view_cI] at hvw
      simp (disch := omega) only [go_sem, ↓IntWalk.iteOmega, IntWalk.toNatUp, Nat.reduceEqDiff, Nat.reduceAdd, Nat.reduceMul, Nat.reduceSub, Nat.reduceLT, Nat.reduceLeDiff, Int.reduceToNat, Int.reduceLT, Int.reduceLE, Int.reduceEq, Int.reduceAdd, Int.reduceSub, Int.reduceMul, Int.toNat_natCast, reduceCtorEq, decide_true, decide_false, IntWalk.i64_in, IntWalk.u64_in, IntWalk.u8_in, h0, h1, h2, h8, hvw]
      have e : ((ns.take i).map fun x => x % (1 + few % 5)) = wordOf ns most few := by rw [wordOf, Int.toNat_natCast, List.take_of_length_le (by omega), List.take_of_length_le (by omega)]
      rw [e]
      have : (wordOf ns most few).length = i := by rw [wordOf, List.length_map, List.length_take, Int.toNat_natCast]; omega
      rw [slI, this]

def RWord (args : List AV) (r : AV) : Prop := ∃ (ns : List Int) (most few : Int), (0 ≤ most ∧ most ≤ 1000) ∧ args = [slI ns, .int .i64 most, .int .i64 few] ∧ r = slI (wordOf ns most few)
theorem RWord_fn : Fun1 RWord := by
  rintro args r r' ⟨a, b, c, _, rfl, rfl⟩ ⟨a', b', c', _, h, rfl⟩
  simp only [List.cons.injEq, AV.int.injEq, AV.sl.injEq, true_and, and_true] at h
  obtain ⟨⟨_, h1⟩, h2, h3⟩ := h
  rw [cI_inj h1, h2, h3]
theorem RWord_ok (args r) (h : RWord args r) : Ok Tryd.prog 18 args r := by obtain ⟨a, b, c, h, rfl, rfl⟩ := h; exact word_ok a b c h
theorem wordOf_le (ns : List Int) (most few : Int) : (wordOf ns most few).length ≤ most.toNat := by rw [wordOf, List.length_map, List.length_take]; omega
end Go.Proofs.YtbapebepmbikhaaDoor.A
/- law7's 'known' answers true: one run by the kernel. -/
namespace Go.Proofs.YtbapebepmbikhaaDoor.A
open Go
def mode7 (f : FuncId) : Mode := if f ∈ [24, 36, 48, 49, 47, 60, 63] then .pure false else if f ∈ [15, 21, 19, 32, 38] then .pure true else .raw false
noncomputable def E7 : Env := { P := Tryd.prog, mode := mode7, ext := fun _ _ => none }
theorem known7_run : (calls E7 60).1 12 [] = some (.bool true) := by kernel_rfl
theorem known7_ok : Ok Tryd.prog 12 [] (.bool true) := ok_calls (E := E7) (tab_nil _) mixed known7_run
end Go.Proofs.YtbapebepmbikhaaDoor.A
/- The table of contracts for the laws of machines of one way. -/
namespace Go.Proofs.YtbapebepmbikhaaDoor.A
open Go
set_option maxRecDepth 20000
abbrev N7 (size : Int) (ns : List Int) (acc : Int) : List Int := next7 (size7 size) ns acc (size7 size)
abbrev A7 (size : Int) (acc : Int) : List Bool := accs7 acc (size7 size)
abbrev made7V (size : Int) (ns : List Int) (acc : Int) : AV := dfaV (size7 size) (N7 size ns acc) (A7 size acc)
theorem make7_ok (size : Int) (ns : List Int) (acc : Int) : Ok Tryd.prog 14 [.int .i64 size, slI ns, .int .i64 acc] (made7V size ns acc) := by
  refine ok_of_WP (E := EX md0 XW7) (cr := noR) XW7_ok (noR_ok _) mixed (k := 20) Tryd.func14 (look7M _) rfl (WP_mono (make7_wp _ size ns acc _ _) ?_)
  rintro u a o nx ⟨rfl, vN, vA, hM, h6, ho6⟩
  have v1 := hM.n.view 10
  have v2 := hM.a.view 10
  rw [view_cI] at v1
  rw [view_cB] at v2
  have hl := accs7_len acc (size7 size)
  refine ⟨.inr rfl, ?_⟩
  simp only [Tryd.f14]
  simp (disch := omega) only [go_sem, ↓IntWalk.iteOmega, IntWalk.toNatUp, Nat.reduceEqDiff, Nat.reduceAdd, Nat.reduceMul, Nat.reduceSub, Nat.reduceLT, Nat.reduceLeDiff, Int.reduceToNat, Int.reduceLT, Int.reduceLE, Int.reduceEq, Int.reduceAdd, Int.reduceSub, Int.reduceMul, Int.toNat_natCast, reduceCtorEq, decide_true, decide_false, IntWalk.i64_in, IntWalk.u64_in, IntWalk.u8_in, h6, ho6, v1, v2]
  rw [made7V, dfaV, slB, accs7_len]
theorem goD_good {n N A} (h : WfD n N A) : ∀ (w : List Int) (s : Int), (∀ x ∈ w, 0 ≤ x ∧ x < 5) → 0 ≤ s → s < (n : Int) → 0 ≤ goD N s w ∧ goD N s w < (n : Int)
  | [], s, _, h1, h2 => by rw [goD]; omega
  | m :: w, s, hx, h1, h2 => by
    have hm := hx m (by simp)
    rw [goD, if_neg (by omega)]
    have := h.get (k := s.toNat * 5 + m.toNat) (by omega)
    exact goD_good h w _ (fun x hx' => hx x (List.mem_cons_of_mem _ hx')) this.1 this.2
theorem wordOf_in (ns : List Int) (most : Int) : ∀ x ∈ wordOf ns most 4, 0 ≤ x ∧ x < 5 := by
  intro x hx
  obtain ⟨y, _, rfl⟩ := List.mem_map.1 hx
  have h1 := Int.emod_nonneg y (show (1 + 4 % 5 : Int) ≠ 0 by decide)
  have h2 := Int.emod_lt_of_pos y (show (0 : Int) < 1 + 4 % 5 by decide)
  exact ⟨h1, by omega⟩
def RKn7 (args : List AV) (r : AV) : Prop := args = [] ∧ r = .bool true
theorem RKn7_fn : Fun1 RKn7 := by rintro args r r' ⟨_, rfl⟩ ⟨_, rfl⟩; rfl
theorem RKn7_ok (args r) (h : RKn7 args r) : Ok Tryd.prog 12 args r := by obtain ⟨rfl, rfl⟩ := h; exact known7_ok
def RMk7 (args : List AV) (r : AV) : Prop := ∃ (size : Int) (ns : List Int) (acc : Int), args = [.int .i64 size, slI ns, .int .i64 acc] ∧ r = made7V size ns acc
theorem RMk7_fn : Fun1 RMk7 := by
  rintro args r r' ⟨a, b, c, rfl, rfl⟩ ⟨a', b', c', h, rfl⟩
  simp only [List.cons.injEq, AV.int.injEq, AV.sl.injEq, true_and, and_true] at h
  obtain ⟨h1, ⟨_, h2⟩, h3⟩ := h
  rw [h1, cI_inj h2, h3]
theorem RMk7_ok (args r) (h : RMk7 args r) : Ok Tryd.prog 14 args r := by obtain ⟨a, b, c, rfl, rfl⟩ := h; exact make7_ok a b c
def RRunD (args : List AV) (r : AV) : Prop := ∃ (n : Nat) (N : List Int) (A : List Bool) (w : List Int), WfD n N A ∧ w.length ≤ 1000000 ∧ args = [dfaV n N A, slI w] ∧ r = .bool (runD n N A w)
theorem RRunD_fn : Fun1 RRunD := by
  rintro args r r' ⟨n, N, A, w, _, _, rfl, rfl⟩ ⟨n', N', A', w', _, _, h, rfl⟩
  simp only [List.cons.injEq, and_true] at h
  obtain ⟨h1, h2, h3⟩ := dfaV_inj h.1
  rw [h1, h2, h3, slI_inj h.2]
theorem RRunD_dfa (args r) (h : RRunD args r) : Ok Tryd.prog 21 args r := by obtain ⟨n, N, A, w, h1, h2, rfl, rfl⟩ := h; exact drun0_ok h1 w h2
theorem RRunD_ref (args r) (h : RRunD args r) : Ok Tryd.prog 22 args r := by obtain ⟨n, N, A, w, h1, h2, rfl, rfl⟩ := h; exact drun1_ok h1 w h2
noncomputable def XL7 : FuncId → List AV → Option AV := tabLook [(12, tRel RKn7), (14, tRel RMk7), (18, tRel RWord), (19, tRel RGoD), (20, tRel RGoD), (21, tRel RRunD), (22, tRel RRunD), (17, tRel RW)]
theorem XL7_ok : CPSound Tryd.prog XL7 := tab_cons (tab_cons (tab_cons (tab_cons (tab_cons (tab_cons (tab_cons (tab_cons (tab_nil _) (tRel_ok within3_ok)) (tRel_ok RRunD_ref)) (tRel_ok RRunD_dfa)) (tRel_ok RGoD_ref)) (tRel_ok RGoD_dfa)) (tRel_ok RWord_ok)) (tRel_ok RMk7_ok)) (tRel_ok RKn7_ok)
theorem XL7_known : XL7 12 [] = some (.bool true) := tRel_eq (R := RKn7) RKn7_fn ⟨rfl, rfl⟩
theorem XL7_make (size : Int) (ns : List Int) (acc : Int) : XL7 14 [.int .i64 size, slI ns, .int .i64 acc] = some (made7V size ns acc) := tRel_eq (R := RMk7) RMk7_fn ⟨_, _, _, rfl, rfl⟩
theorem XL7_word (ns : List Int) (most few : Int) (h : 0 ≤ most ∧ most ≤ 1000) : XL7 18 [slI ns, .int .i64 most, .int .i64 few] = some (slI (wordOf ns most few)) := tRel_eq (R := RWord) RWord_fn ⟨_, _, _, h, rfl, rfl⟩
theorem XL7_go {n N A} (hw : WfD n N A) (s : Int) (w : List Int) (hl : w.length ≤ 1000000) : XL7 19 [dfaV n N A, .int .i64 s, slI w] = some (.int .i64 (goFull n N s w)) := tRel_eq (R := RGoD) RGoD_fn ⟨_, _, _, _, _, hw, hl, rfl, rfl⟩
theorem XL7_rgo {n N A} (hw : WfD n N A) (s : Int) (w : List Int) (hl : w.length ≤ 1000000) : XL7 20 [dfaV n N A, .int .i64 s, slI w] = some (.int .i64 (goFull n N s w)) := tRel_eq (R := RGoD) RGoD_fn ⟨_, _, _, _, _, hw, hl, rfl, rfl⟩
theorem XL7_run {n N A} (hw : WfD n N A) (w : List Int) (hl : w.length ≤ 1000000) : XL7 21 [dfaV n N A, slI w] = some (.bool (runD n N A w)) := tRel_eq (R := RRunD) RRunD_fn ⟨_, _, _, _, hw, hl, rfl, rfl⟩
theorem XL7_rrun {n N A} (hw : WfD n N A) (w : List Int) (hl : w.length ≤ 1000000) : XL7 22 [dfaV n N A, slI w] = some (.bool (runD n N A w)) := tRel_eq (R := RRunD) RRunD_fn ⟨_, _, _, _, hw, hl, rfl, rfl⟩
theorem XL7_within (a n : Int) (h1 : 0 < n) (h2 : n ≤ 1000000) : XL7 17 [.int .i64 a, .int .i64 n] = some (.int .i64 (a % n)) := rw_eq h1 h2
end Go.Proofs.YtbapebepmbikhaaDoor.A
/- law7.Make on the caller's memory: what it makes may be written to. -/
namespace Go.Proofs.YtbapebepmbikhaaDoor.A
open Go
set_option maxRecDepth 20000
@[go_sem] theorem freezeR_false (v H) : freezeR false v H = (v, H) := rfl
def md7 (f : FuncId) : Mode := if f = 14 then .raw false else md0 f
theorem md7_make : md7 14 = .raw false := rfl
theorem md7_law7_known : md7 12 = md0 12 := rfl
theorem md7_law7_within : md7 17 = md0 17 := rfl
theorem md7_law5_Word : md7 18 = md0 18 := rfl
theorem md7_law7_Few : md7 13 = md0 13 := rfl
theorem md7_dfa_Run : md7 21 = md0 21 := rfl
theorem md7_dfa_Check : md7 15 = md0 15 := rfl
theorem md7_ref7_Check : md7 16 = md0 16 := rfl
noncomputable def crM7 : CallR := tabLookR [(14, fun args H => if args.length = 3 then runP (EX md0 XW7) noR 20 nz7 Tryd.f14 args H else none)]
theorem crM7_ok : CRSound Tryd.prog crM7 ∧ Up crM7 := by
  refine tabR_cons (tabR_nil _) fun args H v H' h => ?_
  split at h
  · rename_i hn
    exact okR_run (E := EX md0 XW7) XW7_ok (noR_ok Tryd.prog).1 (noR_ok Tryd.prog).2 mixed Tryd.func14 (by rw [hn]; exact look7M XW7) h
  · cases h
theorem make7_call {o : Ob} {nx : Nat} {K : AV × AH → Prop} (size : Int) (ns : List Int) (acc : Int)
    (h : ∀ vN vA o' nx', Made7 o nx (size7 size) ns acc (size7 size) vN vA o' nx' → K (.agg [vN, vA], ⟨o', nx'⟩)) :
    wO (Option.map (fun p => freezeR false p.1 p.2) (crM7 14 [.int .i64 size, slI ns, .int .i64 acc] ⟨o, nx⟩)) K := by
  have hw := make7_wp noR size ns acc o nx
  have hb : Tryd.f14.body = some (Tryd.f14.body.getD .skip) := rfl
  unfold WP at hw
  have e : crM7 14 [.int .i64 size, slI ns, .int .i64 acc] ⟨o, nx⟩ = runP (EX md0 XW7) noR 20 nz7 Tryd.f14 [.int .i64 size, slI ns, .int .i64 acc] ⟨o, nx⟩ := rfl
  rw [e]
  unfold runP
  rw [hb]
  dsimp only
  cases he : evalP (EX md0 XW7) (fun _ _ => none) noR 20 nz7 none (Tryd.f14.body.getD .skip) (begin_ [.int .i64 size, slI ns, .int .i64 acc]) ⟨o, nx⟩ with
  | none => rw [he] at hw; exact hw.elim
  | some p =>
    obtain ⟨u, a, H⟩ := p
    rw [he] at hw
    obtain ⟨rfl, vN, vA, hM, h6, ho6⟩ := hw
    have hr : resultsL (EX md0 XW7).P a H Tryd.f14.results.toList = some [.agg [vN, vA]] := by
      obtain ⟨Ho, Hn⟩ := H
      dsimp only at ho6
      simp only [Tryd.f14]
      simp (disch := omega) only [go_sem, ↓IntWalk.iteOmega, IntWalk.toNatUp, Nat.reduceEqDiff, Nat.reduceAdd, Nat.reduceMul, Nat.reduceSub, Nat.reduceLT, Nat.reduceLeDiff, Int.reduceToNat, Int.reduceLT, Int.reduceLE, Int.reduceEq, Int.reduceAdd, Int.reduceSub, Int.reduceMul, Int.toNat_natCast, reduceCtorEq, decide_true, decide_false, IntWalk.i64_in, IntWalk.u64_in, IntWalk.u8_in, h6, ho6]
    dsimp only
    rw [hr]
    exact h vN vA H.o H.nx hM
/-! ### whether a machine may be -/
def RChkD (args : List AV) (r : AV) : Prop := ∃ (n : Nat) (N : List Int) (A : List Bool), N.length = 5 * n ∧ args = [dfaV n N A] ∧ r = .bool (chkD n N A)
theorem RChkD_fn : Fun1 RChkD := by
  rintro args r r' ⟨n, N, A, _, rfl, rfl⟩ ⟨n', N', A', _, h, rfl⟩
  simp only [List.cons.injEq, and_true] at h
  obtain ⟨h1, h2, h3⟩ := dfaV_inj h
  rw [h1, h2, h3]
theorem RChkD_dfa (args r) (h : RChkD args r) : Ok Tryd.prog 15 args r := by obtain ⟨n, N, A, h, rfl, rfl⟩ := h; exact dchk_ok n N A h
theorem RChkD_ref (args r) (h : RChkD args r) : Ok Tryd.prog 16 args r := by obtain ⟨n, N, A, h, rfl, rfl⟩ := h; exact rchk_ok n N A h
def RFew7 (args : List AV) (r : AV) : Prop := ∃ (n : Nat) (N : List Int) (A : List Bool), args = [dfaV n N A] ∧ r = .bool (decide (n ≤ 60 ∧ A.length ≤ 60))
theorem RFew7_fn : Fun1 RFew7 := by
  rintro args r r' ⟨n, N, A, rfl, rfl⟩ ⟨n', N', A', h, rfl⟩
  simp only [List.cons.injEq, and_true] at h
  obtain ⟨h1, h2, h3⟩ := dfaV_inj h
  rw [h1, h3]
theorem lookFew7 (X) : lookedAt (EX md0 X) (fun _ => none) 1 Tryd.f13 = true := by kernel_rfl
theorem RFew7_ok (args r) (h : RFew7 args r) : Ok Tryd.prog 13 args r := by
  obtain ⟨n, N, A, rfl, rfl⟩ := h
  refine ok_of_WP (E := EX md0 (fun _ _ => none)) (cr := noR) (tab_nil _) (noR_ok _) mixed (k := 2) Tryd.func13 (lookFew7 _) rfl ?_
  simp only [Tryd.f13, Option.getD_some]
  by_cases h1 : (n : Int) ≤ 60
  · by_cases h2 : (A.length : Int) ≤ 60
    · rw [decide_eq_true (by omega)]
      simp (disch := omega) only [go_sem, ↓IntWalk.iteOmega, IntWalk.toNatUp, Nat.reduceEqDiff, Nat.reduceAdd, Nat.reduceMul, Nat.reduceSub, Nat.reduceLT, Nat.reduceLeDiff, Int.reduceToNat, Int.reduceLT, Int.reduceLE, Int.reduceEq, Int.reduceAdd, Int.reduceSub, Int.reduceMul, Int.toNat_natCast, reduceCtorEq, decide_true, decide_false, IntWalk.i64_in, IntWalk.u64_in, IntWalk.u8_in, h1, h2]
    · rw [decide_eq_false (by omega)]
      simp (disch := omega) only [go_sem, ↓IntWalk.iteOmega, IntWalk.toNatUp, Nat.reduceEqDiff, Nat.reduceAdd, Nat.reduceMul, Nat.reduceSub, Nat.reduceLT, Nat.reduceLeDiff, Int.reduceToNat, Int.reduceLT, Int.reduceLE, Int.reduceEq, Int.reduceAdd, Int.reduceSub, Int.reduceMul, Int.toNat_natCast, reduceCtorEq, decide_true, decide_false, IntWalk.i64_in, IntWalk.u64_in, IntWalk.u8_in, h1, h2]
  · rw [decide_eq_false (by omega)]
    simp (disch := omega) only [go_sem, ↓IntWalk.iteOmega, IntWalk.toNatUp, Nat.reduceEqDiff, Nat.reduceAdd, Nat.reduceMul, Nat.reduceSub, Nat.reduceLT, Nat.reduceLeDiff, Int.reduceToNat, Int.reduceLT, Int.reduceLE, Int.reduceEq, Int.reduceAdd, Int.reduceSub, Int.reduceMul, Int.toNat_natCast, reduceCtorEq, decide_true, decide_false, IntWalk.i64_in, IntWalk.u64_in, IntWalk.u8_in, h1]
noncomputable def XCk7 : FuncId → List AV → Option AV := tabLook [(12, tRel RKn7), (17, tRel RW), (13, tRel RFew7), (15, tRel RChkD), (16, tRel RChkD), (18, tRel RWord), (21, tRel RRunD)]
theorem XCk7_ok : CPSound Tryd.prog XCk7 := tab_cons (tab_cons (tab_cons (tab_cons (tab_cons (tab_cons (tab_cons (tab_nil _) (tRel_ok RRunD_dfa)) (tRel_ok RWord_ok)) (tRel_ok RChkD_ref)) (tRel_ok RChkD_dfa)) (tRel_ok RFew7_ok)) (tRel_ok within3_ok)) (tRel_ok RKn7_ok)
theorem XCk7_known : XCk7 12 [] = some (.bool true) := tRel_eq (R := RKn7) RKn7_fn ⟨rfl, rfl⟩
theorem XCk7_within (a n : Int) (h1 : 0 < n) (h2 : n ≤ 1000000) : XCk7 17 [.int .i64 a, .int .i64 n] = some (.int .i64 (a % n)) := rw_eq h1 h2
theorem XCk7_few (n N A) : XCk7 13 [dfaV n N A] = some (.bool (decide (n ≤ 60 ∧ A.length ≤ 60))) := tRel_eq (R := RFew7) RFew7_fn ⟨_, _, _, rfl, rfl⟩
theorem XCk7_dc (n N A) (h : N.length = 5 * n) : XCk7 15 [dfaV n N A] = some (.bool (chkD n N A)) := tRel_eq (R := RChkD) RChkD_fn ⟨_, _, _, h, rfl, rfl⟩
theorem XCk7_rc (n N A) (h : N.length = 5 * n) : XCk7 16 [dfaV n N A] = some (.bool (chkD n N A)) := tRel_eq (R := RChkD) RChkD_fn ⟨_, _, _, h, rfl, rfl⟩
theorem XCk7_word (ns : List Int) (most few : Int) (h : 0 ≤ most ∧ most ≤ 1000) : XCk7 18 [slI ns, .int .i64 most, .int .i64 few] = some (slI (wordOf ns most few)) := tRel_eq (R := RWord) RWord_fn ⟨_, _, _, h, rfl, rfl⟩
theorem XCk7_run {n N A} (hw : WfD n N A) (w : List Int) (hl : w.length ≤ 1000000) : XCk7 21 [dfaV n N A, slI w] = some (.bool (runD n N A w)) := tRel_eq (R := RRunD) RRunD_fn ⟨_, _, _, _, hw, hl, rfl, rfl⟩
theorem chk_wf {n N A} (h : WfD n N A) : chkD n N A = true := by
  unfold chkD
  rw [decide_eq_true ⟨h.sz.1, h.sz.2, h.a⟩, Bool.true_and, List.all_eq_true]
  exact fun x hx => decide_eq_true (h.e x hx)
end Go.Proofs.YtbapebepmbikhaaDoor.A
/- Arguments that read are data: parts, fields; machines of one way. -/
namespace Go.Proofs.YtbapebepmbikhaaDoor.A
open Go
set_option maxRecDepth 20000
theorem shaped_fields {P : Program} {d : Nat} {t : TypeId} {fs : Array Field} (hu : P.underlying t = some (.struct fs)) {xs : List AV} (h : Shaped P d t xs) : ∃ (d' : Nat) (parts : List (List AV)), xs = parts.flatten ∧ parts.length = fs.toList.length ∧ ∀ (i : Nat) (f : Field) (p : List AV), fs.toList[i]? = some f → parts[i]? = some p → Shaped P d' f.type p := by
  cases d with
  | zero => exact h.elim
  | succ d =>
    unfold Shaped at h
    rw [hu] at h
    obtain ⟨parts, h1, h2, h3⟩ := h
    exact ⟨d, parts, h1, by simpa using h2, fun i f p hf hp => h3 i f p (by simpa using hf) hp⟩
theorem shaped_slice {P : Program} {d : Nat} {t e : TypeId} (hu : P.underlying t = some (.slice e)) {xs : List AV} (h : Shaped P d t xs) : ∃ (d' : Nat) (parts : List (List AV)), xs = [.sl parts.length parts.flatten] ∧ parts.length ≤ maxLen ∧ ∀ p ∈ parts, Shaped P d' e p := by
  cases d with
  | zero => exact h.elim
  | succ d =>
    unfold Shaped at h
    rw [hu] at h
    obtain ⟨parts, h1, h2, h3⟩ := h
    exact ⟨d, parts, h1, h2, h3⟩
noncomputable def fieldsOf (t : TypeId) : Array Field := match Tryd.prog.underlying t with | some (.struct fs) => fs | _ => #[]
theorem shaped_bool {P : Program} {d : Nat} {t : TypeId} {xs : List AV} (hu : P.underlying t = some .bool) (h : Shaped P d t xs) : ∃ b, xs = [.bool b] := by
  cases d with
  | zero => exact h.elim
  | succ d =>
    unfold Shaped at h
    rw [hu] at h
    exact h
theorem shaped_arr {P : Program} {d : Nat} {t i : TypeId} {n : Nat} (hu : P.underlying t = some (.array n i)) (hi : P.underlying i = some (.int .i64)) {xs : List AV} (h : Shaped P d t xs) : ∃ l : List Int, l.length = n ∧ xs = cI l := by
  cases d with
  | zero => exact h.elim
  | succ d =>
    unfold Shaped at h
    rw [hu] at h
    obtain ⟨parts, rfl, hl, hp⟩ := h
    obtain ⟨ns, h3, h4⟩ := ints_of hi parts hp
    exact ⟨ns, by rw [← h3]; simpa using hl, h4⟩
theorem parts_I {n : Nat} : ∀ {parts : List (List AV)}, (∀ p ∈ parts, ∃ l : List Int, l.length = n ∧ p = cI l) → ∃ N : List Int, N.length = n * parts.length ∧ parts.flatten = cI N
  | [], _ => ⟨[], rfl, rfl⟩
  | p :: parts, h => by
    obtain ⟨l, h0, rfl⟩ := h p (List.mem_cons_self ..)
    obtain ⟨N, h1, h2⟩ := parts_I (fun q hq => h q (List.mem_cons_of_mem _ hq))
    exact ⟨l ++ N, by rw [List.length_append, h0, h1, List.length_cons, Nat.mul_succ, Nat.add_comm], by rw [cI_app, List.flatten_cons, h2]⟩
theorem parts_B : ∀ {parts : List (List AV)}, (∀ p ∈ parts, ∃ b, p = [AV.bool b]) → ∃ A : List Bool, A.length = parts.length ∧ parts.flatten = cB A
  | [], _ => ⟨[], rfl, rfl⟩
  | p :: parts, h => by
    obtain ⟨b, rfl⟩ := h p (List.mem_cons_self ..)
    obtain ⟨A, h1, h2⟩ := parts_B (fun q hq => h q (List.mem_cons_of_mem _ hq))
    exact ⟨b :: A, by simp [h1], by simp [cB, h2]⟩
theorem arg_dfa {x : AV} (h : ArgOf Tryd.prog 25 x) : ∃ (n : Nat) (N : List Int) (A : List Bool), N.length = 5 * n ∧ x = .agg [.sl n (cI N), slB A] := by
  have hu : Tryd.prog.underlying 25 = some (.struct (fieldsOf 25)) := by kernel_rfl
  have hi : Tryd.prog.underlying 3 = some (.int .i64) := by kernel_rfl
  have hb : Tryd.prog.underlying 4 = some .bool := by kernel_rfl
  have hf : (fieldsOf 25).toList.map (·.type) = [22, 23] := by kernel_rfl
  have hs5 : Tryd.prog.underlying 22 = some (.slice 31) := by kernel_rfl
  have har : Tryd.prog.underlying 31 = some (.array 5 3) := by kernel_rfl
  have hsb : Tryd.prog.underlying 23 = some (.slice 4) := by kernel_rfl
  unfold ArgOf at h
  rw [hu] at h
  obtain ⟨d, xs, rfl, h⟩ := h
  obtain ⟨d', parts, rfl, hl, hp⟩ := shaped_fields hu h
  generalize fieldsOf 25 = fl at *
  have hl5 : fl.toList.length = 2 := by have := congrArg List.length hf; simpa using this
  match hfl : fl.toList, hl5 with
  | [f1, f2], _ =>
    rw [hfl] at hl hp hf
    simp only [List.map_cons, List.map_nil, List.cons.injEq, and_true] at hf
    obtain ⟨e1, e2⟩ := hf
    match parts, hl with
    | [p1, p2], _ =>
      obtain ⟨d4, q4, rfl, _, h4⟩ := shaped_slice hs5 (e1 ▸ hp 0 f1 p1 rfl rfl)
      obtain ⟨d5, q5, rfl, _, h5⟩ := shaped_slice hsb (e2 ▸ hp 1 f2 p2 rfl rfl)
      obtain ⟨N, s1, s2⟩ := parts_I (fun p hp => shaped_arr har hi (h4 p hp))
      obtain ⟨A, t1, t2⟩ := parts_B (fun p hp => shaped_bool hb (h5 p hp))
      exact ⟨q4.length, N, A, s1, by rw [slB, t1, ← s2, ← t2]; rfl⟩
end Go.Proofs.YtbapebepmbikhaaDoor.A
namespace Go.Proofs.YtbapebepmbikhaaDoor.A
open Go
set_option maxRecDepth 20000
theorem lookDChecks : lookedAt (EX md7 XCk7) (fun _ => none) 6 Tryd.f3 = true := by kernel_rfl
theorem dchecks_ok (n0 : Nat) (N0 : List Int) (A0 : List Bool) (hl0 : N0.length = 5 * n0) (size : Int) (ns : List Int) (acc at_ v : Int) : Ok Tryd.prog 3 [dfaV n0 N0 A0, .int .i64 size, slI ns, .int .i64 acc, .int .i64 at_, .int .i64 v] (.bool true) := by
  refine ok_of_WP (E := EX md7 XCk7) (cr := crM7) XCk7_ok crM7_ok mixed (k := 12) Tryd.func3 lookDChecks rfl ?_
  have hw := wf7 size ns acc
  have hkn := XCk7_known
  have hwi := XCk7_within
  have hn := size7_in size
  have hfw := XCk7_few n0 N0 A0
  have hc1 := XCk7_dc n0 N0 A0 hl0
  have hc2 := XCk7_rc n0 N0 A0 hl0
  simp only [Tryd.f3, Option.getD_some]
  by_cases hf : n0 ≤ 60 ∧ A0.length ≤ 60
  · rw [decide_eq_true hf] at hfw
    simp (disch := omega) only [go_sem, ↓IntWalk.iteOmega, IntWalk.toNatUp, Nat.reduceEqDiff, Nat.reduceAdd, Nat.reduceMul, Nat.reduceSub, Nat.reduceLT, Nat.reduceLeDiff, Int.reduceToNat, Int.reduceLT, Int.reduceLE, Int.reduceEq, Int.reduceAdd, Int.reduceSub, Int.reduceMul, Int.toNat_natCast, reduceCtorEq, decide_true, decide_false, IntWalk.i64_in, IntWalk.u64_in, IntWalk.u8_in, hkn, hfw, md7_make, md7_law7_known, md7_law7_Few]
    refine make7_call _ _ _ fun vN vA o1 nx1 hM => ?_
    have h1 := hM.n.ok
    have h2 := hM.a.ok
    have h3 := hM.le
    have k06 := hM.keep 0 6 (by omega)
    simp only [upd_app, if_true, Nat.reduceEqDiff, if_false] at k06
    obtain ⟨_, hN, hA, _, hlN, hlA⟩ := hM
    generalize size7 size = n at *
    generalize next7 n ns acc n = N at *
    generalize accs7 acc n = A at *
    have hal := hw.a
    have v1 : ∀ o' : Ob, (∀ i', o' (i', 54) = o1 (i', 54)) → view o' 11 vN = .sl n (cI N) := fun o' h => by have := (hN.keep (fun i _ => h i) (Nat.le_refl _)).view 10; rwa [view_cI] at this
    have v2 : ∀ o' : Ob, (∀ i', o' (i', 65) = o1 (i', 65)) → view o' 11 vA = .sl n (cB A) := fun o' h => by have := (hA.keep (fun i _ => h i) (Nat.le_refl _)).view 10; rwa [view_cB] at this
    have eA : dfaV n N A = .agg [.sl n (cI N), .sl n (cB A)] := by rw [dfaV, slB, hal]
    have hc3 := XCk7_dc n N A hw.l
    rw [eA, chk_wf hw] at hc3
    have hm4 := Int.emod_nonneg at_ (show (4 : Int) ≠ 0 by decide)
    have hm8 := Int.emod_lt_of_pos at_ (show (0 : Int) < 4 by decide)
    generalize hq : at_ % 4 = q at *
    have hq4 : q = 0 ∨ q = 1 ∨ q = 2 ∨ q = 3 := by omega
    have hz : XCk7 15 [.agg [.sl 0 [], .sl 0 []]] = _ := XCk7_dc 0 [] [] rfl
    have hz2 : XCk7 16 [.agg [.sl 0 [], .sl 0 []]] = _ := XCk7_rc 0 [] [] rfl
    simp (disch := first | omega | (intro _; simp only [upd_app, Nat.reduceEqDiff, if_false])) only [go_sem, ↓IntWalk.iteOmega, IntWalk.toNatUp, Nat.reduceEqDiff, Nat.reduceAdd, Nat.reduceMul, Nat.reduceSub, Nat.reduceLT, Nat.reduceLeDiff, Int.reduceToNat, Int.reduceLT, Int.reduceLE, Int.reduceEq, Int.reduceAdd, Int.reduceSub, Int.reduceMul, Int.toNat_natCast, reduceCtorEq, decide_true, decide_false, IntWalk.i64_in, IntWalk.u64_in, IntWalk.u8_in, h1, h2, hkn, hfw, hc1, hc2, hc3, k06, hwi, hq, v1, v2, md7_law7_within, md7_dfa_Check, md7_ref7_Check]
    clear hkn hfw hc1 hc2 hc3
    rcases hN with ⟨_, e2, _⟩ | ⟨i1, g1, rfl, hi1, rowN, lenN⟩
    · omega
    rcases hA with ⟨_, e2, _⟩ | ⟨i2, g2, rfl, hi2, rowA, lenA⟩
    · omega
    have hi1' := hlN i1 _ _ rfl
    have hi2' := hlA i2 _ _ rfl
    have w1 := hwi (IntKind.i64.wrap (at_.tdiv 4)) n (by omega) (by omega)
    have p0 := Int.emod_nonneg (IntKind.i64.wrap (at_.tdiv 4)) (show (n : Int) ≠ 0 by omega)
    have p1 := Int.emod_lt_of_pos (IntKind.i64.wrap (at_.tdiv 4)) (show (0 : Int) < n by omega)
    have w2 := hwi v 5 (by omega) (by omega)
    have p2 := Int.emod_nonneg v (show (5 : Int) ≠ 0 by decide)
    have p3 := Int.emod_lt_of_pos v (show (0 : Int) < 5 by decide)
    have w3 := hwi v 3 (by omega) (by omega)
    have p4 := Int.emod_nonneg v (show (3 : Int) ≠ 0 by decide)
    have p5 := Int.emod_lt_of_pos v (show (0 : Int) < 3 by decide)
    obtain ⟨t, ht⟩ : ∃ t, t = v % 3 := ⟨_, rfl⟩
    rw [← ht] at w3 p4 p5
    obtain ⟨r, hr⟩ := Int.eq_ofNat_of_zero_le p0
    obtain ⟨c, hc⟩ := Int.eq_ofNat_of_zero_le p2
    rw [hr] at w1 p1
    rw [hc] at w2 p3
    have hnl : (cI N).length = 5 * n := by rw [cI_length, hw.l]
    have hset : ∀ x, splice (cI N) (r * 5 + c) [.int .i64 x] = cI (N.set (r * 5 + c) x) := fun x => cI_set _ _ _ (by have := hw.l; omega)
    have htk : ∀ x, (cI (N.set (r * 5 + c) x)).take (n * 5) = cI (N.set (r * 5 + c) x) := fun x => take_len (by rw [cI_length, List.length_set, hw.l]; omega)
    have d1 : ∀ x, XCk7 15 [.agg [.sl n (cI (N.set (r * 5 + c) x)), .sl n (cB A)]] = some (.bool (chkD n (N.set (r * 5 + c) x) A)) := fun x => by
      have := XCk7_dc n (N.set (r * 5 + c) x) A (by rw [List.length_set, hw.l])
      rwa [dfaV, slB, hal] at this
    have d2 : ∀ x, XCk7 16 [.agg [.sl n (cI (N.set (r * 5 + c) x)), .sl n (cB A)]] = some (.bool (chkD n (N.set (r * 5 + c) x) A)) := fun x => by
      have := XCk7_rc n (N.set (r * 5 + c) x) A (by rw [List.length_set, hw.l])
      rwa [dfaV, slB, hal] at this
    have hls : ∀ x, (N.set (r * 5 + c) x).length = 5 * n := fun x => by rw [List.length_set, hw.l]
    have htA : (cB A).take n = cB A := take_len (by rw [cB_length, hal])
    have htB : (cB A ++ [AV.bool true]).take (n + 1) = cB A ++ [AV.bool true] := take_len (by simp [cB_length, hal])
    have htN : (cI N).take (n * 5) = cI N := take_len (by rw [hnl]; omega)
    have d3 : XCk7 15 [.agg [.sl n (cI N), .sl (n + 1) (cB A ++ [.bool true])]] = some (.bool (chkD n N (A ++ [true]))) := by
      have := XCk7_dc n N (A ++ [true]) hw.l
      rwa [dfaV, slB, List.length_append, cB_app, hal] at this
    have d4 : XCk7 16 [.agg [.sl n (cI N), .sl (n + 1) (cB A ++ [.bool true])]] = some (.bool (chkD n N (A ++ [true]))) := by
      have := XCk7_rc n N (A ++ [true]) hw.l
      rwa [dfaV, slB, List.length_append, cB_app, hal] at this
    rcases hq4 with rfl | rfl | rfl | rfl
    · simp (disch := omega) only [go_sem, ↓IntWalk.iteOmega, IntWalk.toNatUp, Nat.reduceEqDiff, Nat.reduceAdd, Nat.reduceMul, Nat.reduceSub, Nat.reduceLT, Nat.reduceLeDiff, Int.reduceToNat, Int.reduceLT, Int.reduceLE, Int.reduceEq, Int.reduceAdd, Int.reduceSub, Int.reduceMul, Int.toNat_natCast, reduceCtorEq, decide_true, decide_false, IntWalk.i64_in, IntWalk.u64_in, IntWalk.u8_in, w1, w2, w3, rowN, rowA, hnl, hls, hset, htk, d1, d2, htA, md7_law7_within, md7_dfa_Check, md7_ref7_Check]
    · simp (disch := omega) only [go_sem, ↓IntWalk.iteOmega, IntWalk.toNatUp, Nat.reduceEqDiff, Nat.reduceAdd, Nat.reduceMul, Nat.reduceSub, Nat.reduceLT, Nat.reduceLeDiff, Int.reduceToNat, Int.reduceLT, Int.reduceLE, Int.reduceEq, Int.reduceAdd, Int.reduceSub, Int.reduceMul, Int.toNat_natCast, reduceCtorEq, decide_true, decide_false, IntWalk.i64_in, IntWalk.u64_in, IntWalk.u8_in, w1, w2, w3, rowN, rowA, hnl, hls, hset, htk, d1, d2, htA, md7_law7_within, md7_dfa_Check, md7_ref7_Check]
    · have hls := hw.l
      simp (disch := omega) only [go_sem, ↓IntWalk.iteOmega, IntWalk.toNatUp, Nat.reduceEqDiff, Nat.reduceAdd, Nat.reduceMul, Nat.reduceSub, Nat.reduceLT, Nat.reduceLeDiff, Int.reduceToNat, Int.reduceLT, Int.reduceLE, Int.reduceEq, Int.reduceAdd, Int.reduceSub, Int.reduceMul, Int.toNat_natCast, reduceCtorEq, decide_true, decide_false, IntWalk.i64_in, IntWalk.u64_in, IntWalk.u8_in, w1, w2, w3, rowN, rowA, d3, d4, hls, htB, htN, htA, md7_law7_within, md7_dfa_Check, md7_ref7_Check]
    · simp (disch := omega) only [go_sem, ↓IntWalk.iteOmega, IntWalk.toNatUp, Nat.reduceEqDiff, Nat.reduceAdd, Nat.reduceMul, Nat.reduceSub, Nat.reduceLT, Nat.reduceLeDiff, Int.reduceToNat, Int.reduceLT, Int.reduceLE, Int.reduceEq, Int.reduceAdd, Int.reduceSub, Int.reduceMul, Int.toNat_natCast, reduceCtorEq, decide_true, decide_false, IntWalk.i64_in, IntWalk.u64_in, IntWalk.u8_in, hz, hz2, md7_dfa_Check, md7_ref7_Check]
  · rw [decide_eq_false hf] at hfw
    simp (disch := omega) only [go_sem, ↓IntWalk.iteOmega, IntWalk.toNatUp, Nat.reduceEqDiff, Nat.reduceAdd, Nat.reduceMul, Nat.reduceSub, Nat.reduceLT, Nat.reduceLeDiff, Int.reduceToNat, Int.reduceLT, Int.reduceLE, Int.reduceEq, Int.reduceAdd, Int.reduceSub, Int.reduceMul, Int.toNat_natCast, reduceCtorEq, decide_true, decide_false, IntWalk.i64_in, IntWalk.u64_in, IntWalk.u8_in, hkn, hfw, md7_law7_known, md7_law7_Few]
end Go.Proofs.YtbapebepmbikhaaDoor.A

namespace Go.Proofs.YtbapebepmbikhaaDoor
open Go Go.Proofs.YtbapebepmbikhaaDoor.A
set_option maxRecDepth 100000 in
theorem dfaChecks_lifted (os : Os) (started : os.Started) (H : Type) (enc : TypeId × Value → H) :
    ReturnsInHanded {} Tryd.checked os 3 .any (fun w args => (Rows.dfaChecksSpec.pre enc Tryd.prog Tryd.f3 [] false w args ∧ laidMetH Tryd.prog laidL w) ∧ sizedMet enc Tryd.prog Tryd.f3 (OpenSpec.ofChange Rows.dfaChecksSpec) false w args) (Rows.dfaChecksSpec.post enc Tryd.prog Tryd.f3 false true false false) :=
  law_laid (C := Tryd.checked) (L := laidL) laidL_noh Tryd.own started (by kernel_rfl) Tryd.func3
    (ChangeSpec.witness_at (enc := enc) (C := Tryd.checked) (os := os) (X := fun w _ => laidMetH Tryd.prog laidL w) false (laidWorld os) #[.agg #[.slice none 0 0, .slice none 0 0], .int .i64 0, .slice none 0 0, .int .i64 0, .int .i64 0, .int .i64 0] 8 rfl (by kernel_rfl) (by kernel_rfl) (by kernel_rfl) (by kernel_rfl) (by kernel_rfl) (laidWorld_met os _))
    Tryd.laidOut (ks := [25, 3, 26, 22, 31, 23, 4]) (by kernel_rfl) (by kernel_rfl) (tb := 4) (by kernel_rfl) (by kernel_rfl) rfl
    (fun ds hds => by
      match ds, hds with
      | [_, _, _, _, _, _], _ => exact ⟨rfl, rfl, rfl⟩)
    (fun xs hxs => by
      rw [show Tryd.f3.params.toList = [25, 3, 26, 3, 3, 3] from rfl] at hxs
      match xs, hxs with
      | [x1, x2, x3, x4, x5, x6], ⟨h1, h2, h3, h4, h5, h6, _⟩ =>
        obtain ⟨n1a, n1b, n1c, n1d, rfl⟩ := arg_dfa h1
        obtain ⟨n2, rfl, _⟩ := arg_int (k := .i64) (by kernel_rfl) h2
        obtain ⟨n3, rfl, _⟩ := arg_ints (e := 3) (by kernel_rfl) (by kernel_rfl) h3
        obtain ⟨n4, rfl, _⟩ := arg_int (k := .i64) (by kernel_rfl) h4
        obtain ⟨n5, rfl, _⟩ := arg_int (k := .i64) (by kernel_rfl) h5
        obtain ⟨n6, rfl, _⟩ := arg_int (k := .i64) (by kernel_rfl) h6
        exact dchecks_ok n1a n1b n1c n1d n2 n3 n4 n5 n6)
theorem dfaChecks_row_holds : Rows.DfaChecksSaid :=
  OpenClaim.holds_of_wide 3 Tryd.f3 rfl rfl rfl rfl rfl rfl rfl ⟨rfl, rfl, rfl, rfl, rfl⟩ rfl rfl rfl rfl rfl (by kernel_rfl) Tryd.func3 (by kernel_rfl)
    (of_decide_eq_true (by kernel_rfl)) (by unfold Func.isWrapper; first | (rw [if_pos (by decide +kernel)]; kernel_rfl) | (rw [if_neg (by decide +kernel)]; exact ⟨rfl, rfl⟩))
    (fun os started H enc _ => dfaChecks_lifted os started H enc)
theorem dfaChecks_card_holds : Rows.DfaChecksCardSaid :=
  Claim7.holds_tied_plain_at .later [] [.data, .data, .data] true (true, "37a9852a9fe75bae8ecdd51a9f1ba6b5666322df2f7c2966bcd7feade69f371f") false
    dfaChecks_row_holds (fun _ h => by cases h) (by kernel_rfl) (fun _ h => by cases h) dfaChecks_row_tie rfl ⟨rfl, rfl⟩ (by kernel_rfl) rfl
    (fun f fn hf hfn => by
      obtain rfl : f = 3 := (Option.some.inj ((show Tryd.prog.funcNamed "milestone/milestonelaw7.DfaChecks" = some 3 by kernel_rfl).symm.trans hf)).symm
      obtain rfl : fn = Tryd.f3 := (Option.some.inj (Tryd.func3.symm.trans hfn)).symm
      refine ⟨by kernel_rfl, fun j t ht => ?_⟩
      exact (wants_all (by kernel_rfl : (Tryd.f3.params.toList.all fun t => !Tryd.prog.wantsStandIn t) = true) ht))
    (by kernel_rfl)
end Go.Proofs.YtbapebepmbikhaaDoor
