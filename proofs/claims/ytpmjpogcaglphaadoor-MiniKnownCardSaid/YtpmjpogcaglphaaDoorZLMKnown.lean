/- MiniKnown answers true for whatever it is called with. -/
import Derived.Test.YtpmjpogcaglphaaDoorRows
import Derived.ChangeVars
import Derived.JoinedOf
import Derived.LaidLaws
import Derived.LaidHandle
import Derived.RowKit
import Derived.Test.YtpmjpogcaglphaaDoorTie
import Derived.Test.YtpmjpogcaglphaaDoorCards
import Derived.Shelf.Strings.Search1
import Derived.Test.YtpmjpogcaglphaaDoorMLMKnown1
import Derived.Test.YtpmjpogcaglphaaDoorMLMKnown2
import Derived.Test.YtpmjpogcaglphaaDoorMLMKnown3
import Derived.Test.YtpmjpogcaglphaaDoorMLMKnown4
import Derived.Test.YtpmjpogcaglphaaDoorMLMKnown5
set_option linter.unusedVariables false
set_option linter.unusedSimpArgs false
set_option linter.unnecessarySimpa false
/- A, part 30: slices that a call makes, rows of them; pairs and steps in cells; a contract out of a walk. -/
namespace Go.Proofs.YtpmjpogcaglphaaDoor.A
open Go

/-! ### cells of pairs, of steps -/
def cP (l : List (Int × Int)) : List AV := l.flatMap fun p => [.int .i64 p.1, .int .i64 p.2]
def cS (l : List (Int × Int × Int)) : List AV := l.flatMap fun p => [.int .i64 p.1, .int .i64 p.2.1, .int .i64 p.2.2]
@[go_sem] theorem cP_nil : cP [] = [] := rfl
@[go_sem] theorem cS_nil : cS [] = [] := rfl
theorem cP_app (x y) : cP (x ++ y) = cP x ++ cP y := by simp [cP]
theorem cS_app (x y) : cS (x ++ y) = cS x ++ cS y := by simp [cS]
theorem cP_snoc (l : List (Int × Int)) (f t : Int) : cP l ++ [.int .i64 f, .int .i64 t] = cP (l ++ [(f, t)]) := by simp [cP]
theorem cS_snoc (l : List (Int × Int × Int)) (f t s : Int) : cS l ++ [.int .i64 f, .int .i64 t, .int .i64 s] = cS (l ++ [(f, t, s)]) := by simp [cS]
@[go_sem] theorem cP_length (l) : (cP l).length = l.length * 2 := by
  induction l with
  | nil => rfl
  | cons p l ih => simp only [cP, List.flatMap_cons, List.length_append, List.length_cons, List.length_nil] at ih ⊢; omega
@[go_sem] theorem cS_length (l) : (cS l).length = l.length * 3 := by
  induction l with
  | nil => rfl
  | cons p l ih => simp only [cS, List.flatMap_cons, List.length_append, List.length_cons, List.length_nil] at ih ⊢; omega
@[go_sem] theorem cP_ok (l) : (cP l).all cellOk = true := by
  induction l with
  | nil => rfl
  | cons p l ih => simpa [cP, cellOk] using ih
@[go_sem] theorem cS_ok (l) : (cS l).all cellOk = true := by
  induction l with
  | nil => rfl
  | cons p l ih => simpa [cS, cellOk] using ih
@[go_sem] theorem view_cP (o d l) : (cP l).map (view o d) = cP l := by
  induction l with
  | nil => rfl
  | cons p l ih => simpa [cP, view_int] using ih
@[go_sem] theorem view_cS (o d l) : (cS l).map (view o d) = cS l := by
  induction l with
  | nil => rfl
  | cons p l ih => simpa [cS, view_int] using ih
@[go_sem] theorem tags_cP (o d l) : (cP l).flatMap (viewTags o d) = [] := by
  induction l with
  | nil => rfl
  | cons p l ih => simpa [cP, tags_int] using ih
@[go_sem] theorem tags_cS (o d l) : (cS l).flatMap (viewTags o d) = [] := by
  induction l with
  | nil => rfl
  | cons p l ih => simpa [cS, tags_int] using ih
theorem cP_at {l : List (Int × Int)} {i : Nat} (h : i < l.length) : (cP l).drop (i * 2) = .int .i64 (l.getD i (0, 0)).1 :: .int .i64 (l.getD i (0, 0)).2 :: cP (l.drop (i + 1)) := by
  induction l generalizing i with
  | nil => simp at h
  | cons p l ih =>
    cases i with
    | zero => rfl
    | succ i =>
      have : (i + 1) * 2 = i * 2 + 2 := by omega
      rw [this]
      have := ih (i := i) (by simpa using h)
      simpa [cP] using this
theorem cS_at {l : List (Int × Int × Int)} {i : Nat} (h : i < l.length) : (cS l).drop (i * 3) = .int .i64 (l.getD i (0, 0, 0)).1 :: .int .i64 (l.getD i (0, 0, 0)).2.1 :: .int .i64 (l.getD i (0, 0, 0)).2.2 :: cS (l.drop (i + 1)) := by
  induction l generalizing i with
  | nil => simp at h
  | cons p l ih =>
    cases i with
    | zero => rfl
    | succ i =>
      have : (i + 1) * 3 = i * 3 + 3 := by omega
      rw [this]
      have := ih (i := i) (by simpa using h)
      simpa [cS] using this
theorem cs_get {cs : List AV} {i s : Nat} (h : i < cs.length) : take1 false s (cs.drop i) = some (cs.getD i .nil) := by
  rw [take1_drop h]; simp [List.getD, h]
theorem splice_all {xs ys : List AV} (h : xs.length = ys.length) : splice xs 0 ys = ys := by rw [splice_zero, List.drop_eq_nil_of_le (by omega), List.append_nil]
theorem take_len {α : Type} {l : List α} {n : Nat} (h : l.length = n) : l.take n = l := by rw [← h]; exact List.take_length
theorem take_succ_getD {α : Type} {l : List α} {i : Nat} (h : i < l.length) (d : α) : l.take (i + 1) = l.take i ++ [l.getD i d] := by
  rw [List.take_add_one]; simp [List.getD, h]

@[go_sem] theorem cI_all (l) : (cI l).take l.length = cI l := take_len (by simp [cI])
@[go_sem] theorem cB_all (l) : (cB l).take l.length = cB l := take_len (by simp [cB])
@[go_sem] theorem cP_all (l) : (cP l).take (l.length * 2) = cP l := take_len (by simp [cP_length])
@[go_sem] theorem cS_all (l) : (cS l).take (l.length * 3) = cS l := take_len (by simp [cS_length])

/-! ### a slice that the call makes, which may be nil -/
/-- v holds cs, in a row of slot D. -/
def HS (e sz D : Nat) (o : Ob) (nx : Nat) (v : AV) (n : Nat) (cs : List AV) : Prop :=
  (v = .nil ∧ n = 0 ∧ cs = []) ∨ ∃ i g, v = .ref (i, D) g 0 n ∧ i < nx ∧ o (i, D) = some (.row ⟨e, sz, g, false, true, cs⟩) ∧ cs.length = n * sz
theorem HS.nil {e sz D o nx} : HS e sz D o nx .nil 0 [] := .inl ⟨rfl, rfl, rfl⟩
theorem HS.keep {e sz D o nx v n cs} (h : HS e sz D o nx v n cs) {o' : Ob} {nx' : Nat} (ho : ∀ i, i < nx → o' (i, D) = o (i, D)) (hn : nx ≤ nx') : HS e sz D o' nx' v n cs := by
  rcases h with h | ⟨i, g, h1, h2, h3, h4⟩
  · exact .inl h
  · exact .inr ⟨i, g, h1, by omega, by rw [ho i h2, h3], h4⟩
theorem HS.ok {e sz D o nx v n cs} (h : HS e sz D o nx v n cs) : cellOk v = true := by
  rcases h with ⟨rfl, _⟩ | ⟨i, g, rfl, _⟩ <;> rfl
theorem HS.cells {e sz D o nx v n cs} (h : HS e sz D o nx v n cs) : v.cells = [v] := by
  rcases h with ⟨rfl, _⟩ | ⟨i, g, rfl, _⟩ <;> rfl
theorem HS.len {e sz D o nx v n cs} (h : HS e sz D o nx v n cs) : cs.length = n * sz := by
  rcases h with ⟨_, rfl, rfl⟩ | ⟨i, g, _, _, _, h⟩
  · simp
  · exact h
/-- What it is handed on as. -/
theorem HS.view {e sz D o nx v n cs} (h : HS e sz D o nx v n cs) (d : Nat) : view o (d + 1) v = .sl n (cs.map (view o d)) := by
  rcases h with ⟨rfl, rfl, rfl⟩ | ⟨i, g, rfl, _, h3, h4⟩
  · rfl
  · rw [view_ref, h3, rowIf_some, viewR_some]
    simp only [Nat.zero_add, List.drop_zero]
    rw [if_pos (by omega), take_len h4]

theorem nin_slot {D : Nat} {l : List Tag} (h : ∀ t ∈ l, t.2 = D) {i j : Nat} (hj : j ≠ D) : nin (i, j) l = true := by
  unfold nin
  have : (i, j) ∉ l := fun hm => hj (h _ hm)
  simp [this]
theorem HS.tags {e sz D o nx v n cs} (h : HS e sz D o nx v n cs) (d : Nat) (hf : cs.flatMap (viewTags o d) = []) : ∀ t ∈ viewTags o (d + 1) v, t.2 = D := by
  rcases h with ⟨rfl, rfl, rfl⟩ | ⟨i, g, rfl, _, h3, h4⟩
  · intro t ht; cases ht
  · rw [tags_ref, h3, rowIf_some, tagsR_some, List.drop_zero, take_len h4, hf]
    intro t ht
    rw [List.mem_singleton.1 ht]
theorem HS.nin {e sz D o nx v n cs} (h : HS e sz D o nx v n cs) (d : Nat) (hf : cs.flatMap (viewTags o d) = []) {i j : Nat} (hj : j ≠ D) : A.nin (i, j) (viewTags o (d + 1) v) = true := nin_slot (h.tags d hf) hj

/-! ### rows of whole numbers, each of its own make -/
def NI (D : Nat) (o : Ob) (nx : Nat) (cs : List AV) (rows : List (List Int)) : Prop :=
  cs.length = rows.length ∧ (∀ j, j < rows.length → HS 3 1 D o nx (cs.getD j .nil) (rows.getD j []).length (cI (rows.getD j []))) ∧
    ∀ j j' i g n g' n', j < j' → cs.getD j .nil = .ref (i, D) g 0 n → cs.getD j' .nil ≠ .ref (i, D) g' 0 n'
theorem NI.keep {D o nx cs rows} (h : NI D o nx cs rows) {o' : Ob} {nx' : Nat} (ho : ∀ i, i < nx → o' (i, D) = o (i, D)) (hn : nx ≤ nx') : NI D o' nx' cs rows :=
  ⟨h.1, fun j hj => (h.2.1 j hj).keep ho hn, h.2.2⟩
theorem NI.start (D o nx) (n : Nat) : NI D o nx (List.replicate n .nil) (List.replicate n []) := by
  refine ⟨by simp, fun j hj => ?_, fun j j' i g m g' m' hj h => ?_⟩
  · have hj : j < n := by simpa using hj
    have e1 : (List.replicate n AV.nil).getD j .nil = .nil := by simp [List.getD, List.getElem?_replicate, hj]
    have e2 : (List.replicate n ([] : List Int)).getD j [] = [] := by simp [List.getD, List.getElem?_replicate, hj]
    rw [e1, e2]
    exact .inl ⟨rfl, rfl, rfl⟩
  · by_cases hj : j < n
    · have e1 : (List.replicate n AV.nil).getD j .nil = .nil := by simp [List.getD, List.getElem?_replicate, hj]
      rw [e1] at h; cases h
    · have e1 : (List.replicate n AV.nil).getD j .nil = .nil := by simp [List.getD, List.getElem?_replicate, hj]
      rw [e1] at h; cases h
theorem getD_set {α : Type} (l : List α) (i j : Nat) (x d : α) (hi : i < l.length) : (l.set i x).getD j d = if i = j then x else l.getD j d := by
  simp only [List.getD, List.getElem?_set]
  by_cases h : i = j
  · subst h; simp [hi]
  · simp [h]
/-- One of them is turned. -/
theorem NI.set {D o nx cs rows} (h : NI D o nx cs rows) {j : Nat} (hj : j < rows.length) {o' : Ob} {nx' : Nat} {i : Nat} {g : Tag} {l : List Int} {n : Nat} (hl : n = l.length) (hn : nx ≤ nx') (hi : i < nx')
    (hnew : cs.getD j .nil = .nil ∧ nx ≤ i ∨ ∃ g0 n0, cs.getD j .nil = .ref (i, D) g0 0 n0) (ho : ∀ i', i' < nx → i' ≠ i → o' (i', D) = o (i', D)) (hrow : o' (i, D) = some (.row ⟨3, 1, g, false, true, cI l⟩)) :
    NI D o' nx' (cs.set j (.ref (i, D) g 0 n)) (rows.set j l) := by
  subst hl
  obtain ⟨h1, h2, h3⟩ := h
  have hjc : j < cs.length := by omega
  have apart : ∀ j', j' ≠ j → ∀ g' n', cs.getD j' .nil = .ref (i, D) g' 0 n' → j' < rows.length → False := fun j' hne g' n' he hlt => by
    rcases hnew with ⟨_, hi'⟩ | ⟨g0, n0, he0⟩
    · rcases h2 j' hlt with ⟨e, _⟩ | ⟨i1, g1, e, hi1, _⟩
      · rw [e] at he; cases he
      · rw [e] at he; injection he with he; injection he with he; omega
    · rcases Nat.lt_or_gt_of_ne hne with hlt' | hlt'
      · exact h3 j' j i g' n' g0 n0 hlt' he he0
      · exact h3 j j' i g0 n0 g' n' hlt' he0 he
  have out : ∀ j', ¬ j' < rows.length → cs.getD j' .nil = .nil := fun j' hj' => by
    simp [List.getD, List.getElem?_eq_none (show cs.length ≤ j' by omega)]
  refine ⟨by simpa using h1, fun j' hj' => ?_, fun j1 j2 i1 g1 n1 g2 n2 hlt e1 e2 => ?_⟩
  · have hj'' : j' < rows.length := by simpa using hj'
    rw [getD_set _ _ _ _ _ hjc, getD_set _ _ _ _ _ hj]
    by_cases e : j = j'
    · rw [if_pos e, if_pos e]
      exact .inr ⟨i, g, rfl, hi, hrow, by simp [cI]⟩
    · rw [if_neg e, if_neg e]
      rcases h2 j' hj'' with hh | ⟨i1, g1, e1, hi1, e3, e4⟩
      · exact .inl hh
      · refine .inr ⟨i1, g1, e1, by omega, ?_, e4⟩
        rw [ho i1 hi1 (fun hc => by subst hc; exact apart j' (fun hc => e hc.symm) _ _ e1 hj''), e3]
  · rw [getD_set _ _ _ _ _ hjc] at e1 e2
    have bound : ∀ j', (∃ i g n, cs.getD j' .nil = .ref i g 0 n) → j' < rows.length := fun j' ⟨i, g, n, he⟩ => by
      by_cases hb : j' < rows.length
      · exact hb
      · rw [out j' hb] at he; cases he
    by_cases c1 : j = j1
    · rw [if_pos c1] at e1
      rw [if_neg (by omega)] at e2
      injection e1 with e1; injection e1 with e1
      subst e1
      exact apart j2 (by omega) _ _ e2 (bound j2 ⟨_, _, _, e2⟩)
    · rw [if_neg c1] at e1
      by_cases c2 : j = j2
      · rw [if_pos c2] at e2
        injection e2 with e2; injection e2 with e2
        subst e2
        exact apart j1 (by omega) _ _ e1 (bound j1 ⟨_, _, _, e1⟩)
      · rw [if_neg c2] at e2
        exact h3 j1 j2 i1 g1 n1 g2 n2 hlt e1 e2
/-- What they are handed on as. -/
theorem NI.view {D o nx cs rows} (h : NI D o nx cs rows) (d : Nat) : cs.map (A.view o (d + 1)) = rows.map slI := by
  refine List.ext_getElem (by simpa using h.1) fun j h1 h2 => ?_
  have hj : j < rows.length := by simpa using h2
  have hjc : j < cs.length := by simpa using h1
  have := h.2.1 j hj
  have e1 : cs.getD j .nil = cs[j] := by simp [List.getD, hjc]
  have e2 : rows.getD j [] = rows[j] := by simp [List.getD, hj]
  rw [e1, e2] at this
  simp only [List.getElem_map]
  rw [this.view, view_cI]

/-! ### contracts as relations -/
def Fun1 (R : List AV → AV → Prop) : Prop := ∀ args r r', R args r → R args r' → r = r'
open Classical in
noncomputable def tRel (R : List AV → AV → Prop) : List AV → Option AV := fun args => if h : ∃ r, R args r then some h.choose else none
theorem tRel_eq {R : List AV → AV → Prop} (hf : Fun1 R) {args : List AV} {r : AV} (h : R args r) : tRel R args = some r := by
  unfold tRel
  rw [dif_pos ⟨r, h⟩]
  exact congrArg some (hf _ _ _ (Exists.choose_spec (p := R args) ⟨r, h⟩) h)
theorem tRel_ok {P : Program} {f : FuncId} {R : List AV → AV → Prop} (hk : ∀ args r, R args r → Ok P f args r) : ∀ args r, tRel R args = some r → Ok P f args r := fun args r h => by
  unfold tRel at h
  split at h
  · rename_i hh
    injection h with h
    subst h
    exact hk _ _ hh.choose_spec
  · cases h
theorem cI_inj {x y : List Int} (h : cI x = cI y) : x = y := by
  unfold cI at h
  exact List.map_inj_right (fun a b h => by injection h) |>.1 h
theorem cB_inj {x y : List Bool} (h : cB x = cB y) : x = y := by
  unfold cB at h
  exact List.map_inj_right (fun a b h => by injection h) |>.1 h
theorem slI_inj {x y : List Int} (h : slI x = slI y) : x = y := by
  unfold slI at h; injection h with _ h; exact cI_inj h
theorem slIs_inj {x y : List (List Int)} (h : x.map slI = y.map slI) : x = y := List.map_inj_right (fun a b h => slI_inj h) |>.1 h
theorem cP_inj : ∀ {x y : List (Int × Int)}, cP x = cP y → x = y
  | [], [], _ => rfl
  | [], _ :: _, h => by cases h
  | _ :: _, [], h => by cases h
  | (a, b) :: x, (c, d) :: y, h => by
    simp only [cP, List.flatMap_cons, List.cons_append, List.nil_append, List.cons.injEq, AV.int.injEq, true_and] at h
    obtain ⟨rfl, rfl, h⟩ := h
    rw [cP_inj h]
theorem cS_inj : ∀ {x y : List (Int × Int × Int)}, cS x = cS y → x = y
  | [], [], _ => rfl
  | [], _ :: _, h => by cases h
  | _ :: _, [], h => by cases h
  | (a, b, e) :: x, (c, d, f) :: y, h => by
    simp only [cS, List.flatMap_cons, List.cons_append, List.nil_append, List.cons.injEq, AV.int.injEq, true_and] at h
    obtain ⟨rfl, rfl, rfl, h⟩ := h
    rw [cS_inj h]

/-! ### a contract out of a walk -/
theorem runP_of_WP {E : Env} {cr : CallR} {k : Nat} {nz : Nat → Option (List (Nat × Nat))} {fn : Func} {c : Code} {args : List AV} {r : AV} (hb : fn.body = some c)
    (h : WP E cr k nz c (begin_ args) (fun _ => none) 0 (fun u a o nx => (u = .normal ∨ u = .ret) ∧ wO (resultsL E.P a ⟨o, nx⟩ fn.results.toList) (fun vs => A.view o vDepth (tup1 vs) = r))) :
    ∃ v H', runP E cr k nz fn args noHeap = some (v, H') ∧ A.view H'.o vDepth v = r := by
  unfold WP at h
  unfold runP noHeap
  rw [hb]
  dsimp only
  cases he : evalP E (fun _ _ => none) cr k nz none c (begin_ args) { o := fun _ => none, nx := 0 } with
  | none => rw [he] at h; exact h.elim
  | some p =>
    obtain ⟨u, a, H⟩ := p
    rw [he] at h
    obtain ⟨hu, h⟩ := h
    obtain ⟨vs, h1, h2⟩ : ∃ vs, resultsL E.P a H fn.results.toList = some vs ∧ A.view H.o vDepth (tup1 vs) = r := by
      unfold wO at h
      split at h
      · rename_i vs e; exact ⟨vs, e, h⟩
      · exact h.elim
    rcases hu with rfl | rfl
    · dsimp only
      refine ⟨tup1 vs, H, ?_, h2⟩
      show (resultsL E.P a H fn.results.toList).map _ = _
      rw [show resultsL E.P a H fn.results.toList = some vs from h1]; rfl
    · dsimp only
      refine ⟨tup1 vs, H, ?_, h2⟩
      show (resultsL E.P a H fn.results.toList).map _ = _
      rw [show resultsL E.P a H fn.results.toList = some vs from h1]; rfl
theorem ok_of_WP {E : Env} {cr : CallR} (hX : CPSound E.P E.ext) (hR : CRSound E.P cr ∧ Up cr) (hm : E.P.follows .mixedOrders = true) {k : Nat} {nz : Nat → Option (List (Nat × Nat))} {fn : Func} {f : FuncId} {args : List AV} {r : AV} (hf : E.P.funcs[f]? = some fn)
    (hl : lookedAt E nz args.length fn = true) (hb : fn.body = some (fn.body.getD .skip))
    (h : WP E cr k nz (fn.body.getD .skip) (begin_ args) (fun _ => none) 0 (fun u a o nx => (u = .normal ∨ u = .ret) ∧ wO (resultsL E.P a ⟨o, nx⟩ fn.results.toList) (fun vs => A.view o vDepth (tup1 vs) = r))) : Ok E.P f args r := by
  obtain ⟨v, H', h1, h2⟩ := runP_of_WP hb h
  rw [← h2]
  exact ok_run hX hR.1 hR.2 hm hf hl h1
def noR : CallR := fun _ _ _ => none
theorem noR_ok (P : Program) : CRSound P noR ∧ Up noR := ⟨fun g args H v H' h => (by cases h), fun g args H v H' h => (by cases h)⟩
@[go_sem] theorem resultsL_nil (P a H) : resultsL P a H [] = some [] := rfl
@[go_sem] theorem resultsL_cons (P a H r rs) : resultsL P a H (r :: rs) = consO (result1 P a H r) (resultsL P a H rs) := rfl
@[go_sem] theorem result1_tmp (P a H t) : result1 P a H (.tmp t) = some (a t) := rfl
@[go_sem] theorem result1_cell (P a H ad t) : result1 P a H (.cell ad t) = aLoad P t (a ad) H := rfl
@[go_sem] theorem tup1_one (v) : tup1 [v] = v := rfl
@[go_sem] theorem tup1_two (v w) : tup1 [v, w] = .tup [v, w] := rfl
@[go_sem] theorem tup1_three (v w x) : tup1 [v, w, x] = .tup [v, w, x] := rfl
/-- A piece of code, by its place. -/
def pathC : List Nat → Code → Code
  | [], c => c
  | 0 :: p, .seq a _ => pathC p a
  | 1 :: p, .seq _ b => pathC p b
  | 0 :: p, .block _ c => pathC p c
  | 0 :: p, .loop c => pathC p c
  | 0 :: p, .scope c => pathC p c
  | 0 :: p, .cond _ a _ => pathC p a
  | 1 :: p, .cond _ _ b => pathC p b
  | _, c => c
end Go.Proofs.YtpmjpogcaglphaaDoor.A
/- within: the remainder. -/
namespace Go.Proofs.YtpmjpogcaglphaaDoor.A
open Go
set_option maxRecDepth 20000
def RW (args : List AV) (r : AV) : Prop := ∃ a n : Int, 0 < n ∧ n ≤ 1000000 ∧ args = [.int .i64 a, .int .i64 n] ∧ r = .int .i64 (a % n)
theorem RW_fn : Fun1 RW := by
  rintro args r r' ⟨a, n, _, _, rfl, rfl⟩ ⟨a', n', _, _, h, rfl⟩
  simp only [List.cons.injEq, AV.int.injEq, true_and, and_true] at h
  rw [h.1, h.2]
theorem rw_eq {a n : Int} (h1 : 0 < n) (h2 : n ≤ 1000000) : tRel RW [.int .i64 a, .int .i64 n] = some (.int .i64 (a % n)) := tRel_eq RW_fn ⟨a, n, h1, h2, rfl, rfl⟩
theorem mod_of (a n : Int) (h : 0 < n) : a % n = if a.tmod n < 0 then a.tmod n + n else a.tmod n := by
  have hn : ¬ n = 0 := by omega
  have e1 := Int.emod_lt_of_pos a h
  have e2 := Int.emod_nonneg a hn
  rw [Int.tmod_eq_emod]
  have : (n.natAbs : Int) = n := by omega
  split
  · split <;> omega
  · rename_i hc
    simp only [not_or] at hc
    have h0 : a % n ≠ 0 := fun e => hc.2 (Int.dvd_of_emod_eq_zero e)
    split <;> omega
theorem tmod_in (a n : Int) (h : 0 < n) : -n < a.tmod n ∧ a.tmod n < n := by
  have hn : ¬ n = 0 := by omega
  rw [Int.tmod_eq_emod]
  have := Int.emod_lt_of_pos a h
  have := Int.emod_nonneg a hn
  constructor <;> split <;> omega
theorem lookW1 (X) : lookedAt (EX md0 X) (fun _ => none) 2 Tryd.f56 = true := by kernel_rfl
theorem within1_ok (args r) (h : RW args r) : Ok Tryd.prog 56 args r := by
  obtain ⟨a, n, h1, h2, rfl, rfl⟩ := h
  refine ok_of_WP (E := EX md0 (fun _ _ => none)) (cr := noR) (tab_nil _) (noR_ok _) mixed (k := 0) Tryd.func56 (lookW1 _) rfl ?_
  rw [mod_of a n h1]
  obtain ⟨h3, h4⟩ := tmod_in a n h1
  simp only [Tryd.f56, Option.getD_some]
  by_cases hc : a.tmod n < 0
  · rw [if_pos hc]
    simp (disch := omega) only [go_sem, ↓IntWalk.iteOmega, IntWalk.toNatUp, Nat.reduceEqDiff, Nat.reduceAdd, Nat.reduceMul, Nat.reduceSub, Nat.reduceLT, Nat.reduceLeDiff, Int.reduceToNat, Int.reduceLT, Int.reduceLE, Int.reduceEq, Int.reduceAdd, Int.reduceSub, Int.reduceMul, Int.toNat_natCast, reduceCtorEq, decide_true, decide_false, IntWalk.i64_in, IntWalk.u64_in, IntWalk.u8_in, hc]
  · rw [if_neg hc]
    simp (disch := omega) only [go_sem, ↓IntWalk.iteOmega, IntWalk.toNatUp, Nat.reduceEqDiff, Nat.reduceAdd, Nat.reduceMul, Nat.reduceSub, Nat.reduceLT, Nat.reduceLeDiff, Int.reduceToNat, Int.reduceLT, Int.reduceLE, Int.reduceEq, Int.reduceAdd, Int.reduceSub, Int.reduceMul, Int.toNat_natCast, reduceCtorEq, decide_true, decide_false, IntWalk.i64_in, IntWalk.u64_in, IntWalk.u8_in, hc]
theorem lookW2 (X) : lookedAt (EX md0 X) (fun _ => none) 2 Tryd.f64 = true := by kernel_rfl
theorem within2_ok (args r) (h : RW args r) : Ok Tryd.prog 64 args r := by
  obtain ⟨a, n, h1, h2, rfl, rfl⟩ := h
  refine ok_of_WP (E := EX md0 (fun _ _ => none)) (cr := noR) (tab_nil _) (noR_ok _) mixed (k := 0) Tryd.func64 (lookW2 _) rfl ?_
  rw [mod_of a n h1]
  obtain ⟨h3, h4⟩ := tmod_in a n h1
  simp only [Tryd.f64, Option.getD_some]
  by_cases hc : a.tmod n < 0
  · rw [if_pos hc]
    simp (disch := omega) only [go_sem, ↓IntWalk.iteOmega, IntWalk.toNatUp, Nat.reduceEqDiff, Nat.reduceAdd, Nat.reduceMul, Nat.reduceSub, Nat.reduceLT, Nat.reduceLeDiff, Int.reduceToNat, Int.reduceLT, Int.reduceLE, Int.reduceEq, Int.reduceAdd, Int.reduceSub, Int.reduceMul, Int.toNat_natCast, reduceCtorEq, decide_true, decide_false, IntWalk.i64_in, IntWalk.u64_in, IntWalk.u8_in, hc]
  · rw [if_neg hc]
    simp (disch := omega) only [go_sem, ↓IntWalk.iteOmega, IntWalk.toNatUp, Nat.reduceEqDiff, Nat.reduceAdd, Nat.reduceMul, Nat.reduceSub, Nat.reduceLT, Nat.reduceLeDiff, Int.reduceToNat, Int.reduceLT, Int.reduceLE, Int.reduceEq, Int.reduceAdd, Int.reduceSub, Int.reduceMul, Int.toNat_natCast, reduceCtorEq, decide_true, decide_false, IntWalk.i64_in, IntWalk.u64_in, IntWalk.u8_in, hc]
theorem lookW3 (X) : lookedAt (EX md0 X) (fun _ => none) 2 Tryd.f38 = true := by kernel_rfl
theorem within3_ok (args r) (h : RW args r) : Ok Tryd.prog 38 args r := by
  obtain ⟨a, n, h1, h2, rfl, rfl⟩ := h
  refine ok_of_WP (E := EX md0 (fun _ _ => none)) (cr := noR) (tab_nil _) (noR_ok _) mixed (k := 0) Tryd.func38 (lookW3 _) rfl ?_
  rw [mod_of a n h1]
  obtain ⟨h3, h4⟩ := tmod_in a n h1
  simp only [Tryd.f38, Option.getD_some]
  by_cases hc : a.tmod n < 0
  · rw [if_pos hc]
    simp (disch := omega) only [go_sem, ↓IntWalk.iteOmega, IntWalk.toNatUp, Nat.reduceEqDiff, Nat.reduceAdd, Nat.reduceMul, Nat.reduceSub, Nat.reduceLT, Nat.reduceLeDiff, Int.reduceToNat, Int.reduceLT, Int.reduceLE, Int.reduceEq, Int.reduceAdd, Int.reduceSub, Int.reduceMul, Int.toNat_natCast, reduceCtorEq, decide_true, decide_false, IntWalk.i64_in, IntWalk.u64_in, IntWalk.u8_in, hc]
  · rw [if_neg hc]
    simp (disch := omega) only [go_sem, ↓IntWalk.iteOmega, IntWalk.toNatUp, Nat.reduceEqDiff, Nat.reduceAdd, Nat.reduceMul, Nat.reduceSub, Nat.reduceLT, Nat.reduceLeDiff, Int.reduceToNat, Int.reduceLT, Int.reduceLE, Int.reduceEq, Int.reduceAdd, Int.reduceSub, Int.reduceMul, Int.toNat_natCast, reduceCtorEq, decide_true, decide_false, IntWalk.i64_in, IntWalk.u64_in, IntWalk.u8_in, hc]
theorem lookW4 (X) : lookedAt (EX md0 X) (fun _ => none) 2 Tryd.f30 = true := by kernel_rfl
theorem within4_ok (args r) (h : RW args r) : Ok Tryd.prog 30 args r := by
  obtain ⟨a, n, h1, h2, rfl, rfl⟩ := h
  refine ok_of_WP (E := EX md0 (fun _ _ => none)) (cr := noR) (tab_nil _) (noR_ok _) mixed (k := 0) Tryd.func30 (lookW4 _) rfl ?_
  rw [mod_of a n h1]
  obtain ⟨h3, h4⟩ := tmod_in a n h1
  simp only [Tryd.f30, Option.getD_some]
  by_cases hc : a.tmod n < 0
  · rw [if_pos hc]
    simp (disch := omega) only [go_sem, ↓IntWalk.iteOmega, IntWalk.toNatUp, Nat.reduceEqDiff, Nat.reduceAdd, Nat.reduceMul, Nat.reduceSub, Nat.reduceLT, Nat.reduceLeDiff, Int.reduceToNat, Int.reduceLT, Int.reduceLE, Int.reduceEq, Int.reduceAdd, Int.reduceSub, Int.reduceMul, Int.toNat_natCast, reduceCtorEq, decide_true, decide_false, IntWalk.i64_in, IntWalk.u64_in, IntWalk.u8_in, hc]
  · rw [if_neg hc]
    simp (disch := omega) only [go_sem, ↓IntWalk.iteOmega, IntWalk.toNatUp, Nat.reduceEqDiff, Nat.reduceAdd, Nat.reduceMul, Nat.reduceSub, Nat.reduceLT, Nat.reduceLeDiff, Int.reduceToNat, Int.reduceLT, Int.reduceLE, Int.reduceEq, Int.reduceAdd, Int.reduceSub, Int.reduceMul, Int.toNat_natCast, reduceCtorEq, decide_true, decide_false, IntWalk.i64_in, IntWalk.u64_in, IntWalk.u8_in, hc]
end Go.Proofs.YtpmjpogcaglphaaDoor.A
/- What all laws' rows share: arguments that read are data. -/
namespace Go.Proofs.YtpmjpogcaglphaaDoor.A
open Go
theorem shaped_int {P : Program} {d : Nat} {t : TypeId} {xs : List AV} (hu : P.underlying t = some (.int .i64)) (h : Shaped P d t xs) : ∃ n, xs = [.int .i64 n] := by
  cases d with
  | zero => exact h.elim
  | succ d =>
    unfold Shaped at h
    rw [hu] at h
    obtain ⟨n, e, _⟩ := h
    exact ⟨n, e⟩
theorem ints_of {P : Program} {d : Nat} {t : TypeId} (hu : P.underlying t = some (.int .i64)) : ∀ parts : List (List AV), (∀ p ∈ parts, Shaped P d t p) → ∃ ns : List Int, parts.length = ns.length ∧ parts.flatten = cI ns
  | [], _ => ⟨[], rfl, rfl⟩
  | p :: parts, h => by
    obtain ⟨n, rfl⟩ := shaped_int hu (h p (List.mem_cons_self ..))
    obtain ⟨ns, h1, h2⟩ := ints_of hu parts (fun q hq => h q (List.mem_cons_of_mem _ hq))
    exact ⟨n :: ns, by simp [h1], by simp [cI, h2]⟩
theorem arg_ints {P : Program} {t e : TypeId} {x : AV} (hu : P.underlying t = some (.slice e)) (he : P.underlying e = some (.int .i64)) (h : ArgOf P t x) : ∃ ns : List Int, x = slI ns ∧ ns.length ≤ maxLen := by
  unfold ArgOf at h
  rw [hu] at h
  obtain ⟨d, h⟩ := h
  cases d with
  | zero => exact h.elim
  | succ d =>
    unfold Shaped at h
    rw [hu] at h
    obtain ⟨parts, e1, hle, h2⟩ := h
    injection e1 with e1 _
    obtain ⟨ns, h3, h4⟩ := ints_of he parts h2
    exact ⟨ns, by rw [e1, h3, h4], by omega⟩
theorem arg_bool {P : Program} {t : TypeId} {x : AV} (hu : P.underlying t = some .bool) (h : ArgOf P t x) : ∃ b, x = .bool b := by
  unfold ArgOf at h
  rw [hu] at h
  obtain ⟨d, h⟩ := h
  cases d with
  | zero => exact h.elim
  | succ d =>
    unfold Shaped at h
    rw [hu] at h
    obtain ⟨n, e⟩ := h
    injection e with e _
    exact ⟨n, e⟩
end Go.Proofs.YtpmjpogcaglphaaDoor.A
namespace Go.Proofs.YtpmjpogcaglphaaDoor
open Go Go.Proofs.YtpmjpogcaglphaaDoor.A
theorem Tryd.own : ownKnob Tryd.prog.godebug = none := by kernel_rfl
theorem Tryd.laidOut : laidOutB Tryd.prog = true := by kernel_rfl
end Go.Proofs.YtpmjpogcaglphaaDoor
/- A, part 31: contracts on the caller's memory, as relations. -/
namespace Go.Proofs.YtpmjpogcaglphaaDoor.A
open Go
abbrev RRel := List AV → AH → AV → AH → Prop
open Classical in
noncomputable def cRel (R : RRel) (args : List AV) (H : AH) : Option (AV × AH) := if h : ∃ p : AV × AH, R args H p.1 p.2 then some h.choose else none
theorem cRel_some {R : RRel} {args H v H'} (h : cRel R args H = some (v, H')) : R args H v H' := by
  unfold cRel at h
  split at h
  · rename_i e
    have := e.choose_spec
    injection h with h
    rw [h] at this
    exact this
  · cases h
theorem cRel_call {R : RRel} {args : List AV} {H : AH} {K : AV × AH → Prop} (h1 : ∃ v H', R args H v H') (h2 : ∀ v H', R args H v H' → K (v, H')) : wO (Option.map (fun p => freezeR false p.1 p.2) (cRel R args H)) K := by
  obtain ⟨v, H', h⟩ := h1
  have e : ∃ p : AV × AH, R args H p.1 p.2 := ⟨(v, H'), h⟩
  have e2 : cRel R args H = some e.choose := by unfold cRel; rw [dif_pos e]
  rw [e2]
  exact h2 _ _ e.choose_spec
theorem runPR_of_WP {E : Env} {cr : CallR} {k : Nat} {nz : Nat → Option (List (Nat × Nat))} {fn : Func} {c : Code} {args : List AV} {o : Ob} {nx : Nat} {Post : AV → Ob → Nat → Prop} (hb : fn.body = some c)
    (h : WP E cr k nz c (begin_ args) o nx (fun u a o' nx' => (u = .normal ∨ u = .ret) ∧ wO (resultsL E.P a ⟨o', nx'⟩ fn.results.toList) (fun vs => Post (tup1 vs) o' nx'))) :
    ∃ v H', runP E cr k nz fn args ⟨o, nx⟩ = some (v, H') ∧ Post v H'.o H'.nx := by
  unfold WP at h
  unfold runP
  rw [hb]
  dsimp only
  cases he : evalP E (fun _ _ => none) cr k nz none c (begin_ args) ⟨o, nx⟩ with
  | none => rw [he] at h; exact h.elim
  | some p =>
    obtain ⟨u, a, H⟩ := p
    rw [he] at h
    obtain ⟨hu, h⟩ := h
    obtain ⟨vs, h1, h2⟩ : ∃ vs, resultsL E.P a H fn.results.toList = some vs ∧ Post (tup1 vs) H.o H.nx := by
      unfold wO at h
      split at h
      · rename_i vs e; exact ⟨vs, e, h⟩
      · exact h.elim
    rcases hu with rfl | rfl
    · dsimp only
      refine ⟨tup1 vs, H, ?_, h2⟩
      show (resultsL E.P a H fn.results.toList).map _ = _
      rw [show resultsL E.P a H fn.results.toList = some vs from h1]; rfl
    · dsimp only
      refine ⟨tup1 vs, H, ?_, h2⟩
      show (resultsL E.P a H fn.results.toList).map _ = _
      rw [show resultsL E.P a H fn.results.toList = some vs from h1]; rfl
theorem okR_of_WP {E : Env} {cr : CallR} (hX : CPSound E.P E.ext) (hR : CRSound E.P cr ∧ Up cr) (hm : E.P.follows .mixedOrders = true) {k : Nat} {nz : Nat → Option (List (Nat × Nat))} {fn : Func} {f : FuncId} {args : List AV} {o : Ob} {nx : Nat} {Post : AV → Ob → Nat → Prop} (hf : E.P.funcs[f]? = some fn)
    (hl : lookedAt E nz args.length fn = true) (hb : fn.body = some (fn.body.getD .skip))
    (h : WP E cr k nz (fn.body.getD .skip) (begin_ args) o nx (fun u a o' nx' => (u = .normal ∨ u = .ret) ∧ wO (resultsL E.P a ⟨o', nx'⟩ fn.results.toList) (fun vs => Post (tup1 vs) o' nx'))) : ∃ v H', OkR E.P f args ⟨o, nx⟩ v H' ∧ Post v H'.o H'.nx := by
  obtain ⟨v, H', h1, h2⟩ := runPR_of_WP hb h
  exact ⟨v, H', okR_run hX hR.1 hR.2 hm hf hl h1, h2⟩
end Go.Proofs.YtpmjpogcaglphaaDoor.A
/- A, part 32: loops, round by round. -/
namespace Go.Proofs.YtpmjpogcaglphaaDoor.A
open Go
section
variable (E : Env) (cr : CallR) (k : Nat) (nz : Nat → Option (List (Nat × Nat)))
/-- A loop of n rounds at most. -/
def WPL (n : Nat) (c : Code) (a : AAct) (o : Ob) (nx : Nat) (Q : WPost) : Prop :=
  match iter (evalP E (fun _ _ => none) cr k nz none c) n a ⟨o, nx⟩ with
  | some (u, a', H') => Q u a' H'.o H'.nx
  | none => False
def loopQ (n : Nat) (c : Code) (Q : WPost) : WPost := fun u a o nx => match u with
  | .normal => WPL E cr k nz n c a o nx Q
  | u => Q u a o nx
end
section
variable {E : Env} {cr : CallR} {k : Nat} {nz : Nat → Option (List (Nat × Nat))}
theorem loopQ_normal (n c) (Q : WPost) (a o nx) : loopQ E cr k nz n c Q .normal a o nx = WPL E cr k nz n c a o nx Q := rfl
theorem loopQ_ret (n c) (Q : WPost) (a o nx) : loopQ E cr k nz n c Q .ret a o nx = Q .ret a o nx := rfl
theorem loopQ_exit (n c) (Q : WPost) (i a o nx) : loopQ E cr k nz n c Q (.exit i) a o nx = Q (.exit i) a o nx := rfl
theorem loopQ_goto (n c) (Q : WPost) (i a o nx) : loopQ E cr k nz n c Q (.goto i) a o nx = Q (.goto i) a o nx := rfl
theorem WPL_succ (n : Nat) (c : Code) (a o nx) (Q : WPost) : WPL E cr k nz (n + 1) c a o nx Q = WP E cr k nz c a o nx (loopQ E cr k nz n c Q) := by
  unfold WPL WP
  simp only [iter]
  cases evalP E (fun _ _ => none) cr k nz none c a ⟨o, nx⟩ with
  | none => rfl
  | some p =>
    obtain ⟨u, a', H'⟩ := p
    cases u <;> rfl
theorem WP_loop_eq (c : Code) (a o nx) (Q : WPost) : WP E cr k nz (.loop c) a o nx Q = WPL E cr k nz k c a o nx Q := by
  unfold WPL WP
  simp only [evalP]
  all_goals rfl
end
end Go.Proofs.YtpmjpogcaglphaaDoor.A
/- A, part 33: a law's row that lists variables, from its contract. -/
namespace Go.Proofs.YtpmjpogcaglphaaDoor.A
open Go Go.ChangeShapes
theorem laidMetH_plain {P : Program} {L : List (String × DataW Unit)} (h : (L.filter fun x => x.2.handleName?.isSome) = []) (w : World) : laidMetH P L w = laidMet P L w := by
  unfold laidMetH
  rw [h]
theorem laidVars_at {P : Program} {w : World} {n : String} {d : DataW Unit} : ∀ {L : List (String × DataW Unit)} {ps : List MemPlace}, DataW.LaidVars P w L ps → (n, d) ∈ L →
    ∃ g t cs fuel p, P.globalNamed n = some g ∧ (P.globals[g]?).map (·.type) = some t ∧ w.var? P n = some cs ∧ DataW.trod (fun _ => ()) P w 0 (fun _ => true) false fuel t cs.toList = some (d, p)
  | [], _, _, h => by cases h
  | (m, e) :: L, ps, hv, h => by
    obtain ⟨g, t, cs, fuel, p, q, h1, h2, h3, h4, h5, _⟩ := hv
    rcases List.mem_cons.1 h with e1 | h
    · injection e1 with e1 e2
      subst e1 e2
      exact ⟨g, t, cs, fuel, p, h1, h2, h3, h4⟩
    · exact laidVars_at h5 h
theorem var_heap {P : Program} {w : World} {n : String} {g : Nat} {cs : Array Value} (hg : P.globalNamed n = some g) (h : w.var? P n = some cs) : ∃ t m, w.heap[g]? = some (.cells cs t m) := by
  unfold World.var? at h
  rw [hg] at h
  simp only [Option.bind_some] at h
  split at h
  · rename_i e
    injection h with h
    subst h
    exact ⟨_, _, e⟩
  · cases h
theorem law_laid {H : Type} {enc : TypeId × Value → H} {as_ : Assume} {C : Checked} {os : Os} {f : FuncId} {fn : Func} {s : ChangeSpec} {conds : List PathCond} {apart fresh handsOn again : Bool} {L : List (String × DataW Unit)} (hnoh : (L.filter fun x => x.2.handleName?.isSome) = [])
    (own : ownKnob C.prog.godebug = none) (started : os.Started) (noInit : C.prog.inits.idxOf? f = none) (hfn : C.prog.funcs[f]? = some fn)
    (witness : ∃ (w : World) (tape : Tape) (i : Input), w.os = os ∧ (w.forCall tape i).Shaped C.prog ∧ i.vars = [] ∧ Input.okWide C.prog (w.forCall tape i) .any w.heap.size f i ∧
      ((s.pre enc C.prog fn conds apart (w.forCall tape i).memory i.args ∧ laidMetH C.prog L (w.forCall tape i).memory) ∧ sizedMet enc C.prog fn (OpenSpec.ofChange s) apart (w.forCall tape i).memory i.args) ∧ as_.holds C.prog (lone (Frame.enter C.prog f i.args .normal) [] (w.forCall tape i)))
    (hl : laidOutB C.prog = true) {ks : List TypeId} (hk : dataTypes C.prog ks = true) (hks : fn.params.toList.all (fun t => ks.contains t && C.prog.readableRec t && decide (t < C.prog.types.size)) = true)
    {tb : TypeId} (hr : fn.resultTypes = #[tb]) (htb : C.prog.underlying tb = some .bool) (hv : s.vars = [])
    (hspec : ∀ ds : List (DataW H), ds.length = fn.params.toList.length → (s.fn H ds).results = [.lit (.bool true)] ∧ (s.fn H ds).args = ds ∧ (s.fn H ds).vars = [])
    (hgl : ∀ W, laidMetH C.prog L W → Gl (Old W) W) (hok : ∀ xs, ArgsOf C.prog fn.params.toList xs → Ok C.prog f xs (.bool true)) :
    ReturnsInHanded as_ C os f .any (fun w args => (s.pre enc C.prog fn conds apart w args ∧ laidMetH C.prog L w) ∧ sizedMet enc C.prog fn (OpenSpec.ofChange s) apart w args) (s.post enc C.prog fn apart fresh handsOn again) := by
  have hks' : ∀ t ∈ fn.params.toList, t ∈ ks ∧ C.prog.readableRec t = true ∧ t < C.prog.types.size := fun t ht => by
    have := List.all_eq_true.1 hks t ht
    simp only [Bool.and_eq_true, decide_eq_true_eq, List.contains_iff_mem] at this
    exact ⟨this.1.1, this.1.2, this.2⟩
  refine returnsInHanded_of_change_and (X := fun w _ => laidMetH C.prog L w) (fun w w' _ hh h => by rw [laidMetH_plain hnoh] at h ⊢; exact laidMet.of_heap hh h) own started noInit hfn witness ?_
  intro W base args ds gs before hval hW _ _ hmet _
  have hWc := hW
  obtain ⟨p, q, hA, hV, rfl, hfz, hnd⟩ := hW
  have hlen := trods_length hA
  have hgs : gs = [] := by
    rw [hv] at hV
    exact (trodVars_none hV).1
  subst hgs
  obtain ⟨xs, hx1, hx2⟩ := args_shape hl hk (fun t ht => (hks' t ht).1) (fun j t v ht hv' => hval j t v (by simpa using ht) (by simpa using hv')) hA
  obtain ⟨_, hc⟩ := hok xs hx1
  have := hc (Old W) W args.toList hx2 (fun b hb => hb) (hgl W hmet)
  refine Calls.mono (by simpa using this) ?_
  rintro e W' ⟨v, S', rfl, hb, hpr, _, _⟩
  cases hpr
  refine ⟨_, rfl, law_post hl hWc hv hr htb ?_ (fun t ht => (hks' t ht).2) hb⟩
  rw [List.append_nil]
  exact hspec ds hlen
/-! ### a world whose listed variables are laid -/
def litV : Lit → Value
  | .int k n => .int k n
  | .bool b => .bool b
  | .string s => .string ⟨s.toArray⟩
  | _ => default
def laidCells : DataW Unit → Array Value
  | .agg l => (l.map fun x => match x with | .lit v => litV v | _ => default).toArray
  | .lit v => #[litV v]
  | _ => #[]
/-- Variable k holds these cells. -/
def layW (w : World) (k : Nat) (cells : Array Value) : World := { w with heap := w.heap.modify k fun
  | .cells _ t frozen => .cells cells t frozen
  | o => o }
end Go.Proofs.YtpmjpogcaglphaaDoor.A
/- A world whose listed variables are laid; what a tied card asks. -/
namespace Go.Proofs.YtpmjpogcaglphaaDoor
open Go Go.Proofs.YtpmjpogcaglphaaDoor.A
set_option maxRecDepth 100000
abbrev laidL : List (String × DataW Unit) := [("math/bits.deBruijn32tab", Rows.laid_math_bits_deBruijn32tab), ("math/bits.deBruijn64tab", Rows.laid_math_bits_deBruijn64tab), ("internal/strconv.uint64pow10", Rows.laid_internal_strconv_uint64pow10)]
theorem laidL_noh : (laidL.filter fun x => x.2.handleName?.isSome) = [] := by kernel_rfl
noncomputable def laidWorld (os : Os) : World :=
  layW (layW (layW (World.holding Tryd.prog os ⟨#[], #[], []⟩) ((Tryd.prog.globalNamed "internal/strconv.uint64pow10").getD 0) (laidCells Rows.laid_internal_strconv_uint64pow10)) ((Tryd.prog.globalNamed "math/bits.deBruijn32tab").getD 0) (laidCells Rows.laid_math_bits_deBruijn32tab)) ((Tryd.prog.globalNamed "math/bits.deBruijn64tab").getD 0) (laidCells Rows.laid_math_bits_deBruijn64tab)
theorem laidWorld_met (os : Os) (args : Array Value) : laidMetH Tryd.prog laidL ((laidWorld os).forCall (fun _ _ => 0) ⟨#[], args, []⟩).memory := by
  rw [laidMetH_plain laidL_noh]
  exact laidMet_of_run' 80 (by kernel_rfl) (by kernel_rfl)
theorem laid_gl (W : World) (h : laidMetH Tryd.prog laidL W) : Gl (Old W) W := by
  rw [laidMetH_plain laidL_noh] at h
  obtain ⟨ps, hv, _⟩ := h
  obtain ⟨g, t, cs, fuel, p, h1, h2, h3, h4⟩ := laidVars_at (n := "internal/strconv.uint64pow10") (d := Lib.tabData .u64 Lib.pow10Tab) hv (List.mem_cons_of_mem _ (List.mem_cons_of_mem _ (by rw [show (Lib.tabData .u64 Lib.pow10Tab : DataW Unit) = Rows.laid_internal_strconv_uint64pow10 by kernel_rfl]; exact List.mem_cons_self ..)))
  obtain ⟨ty, m, hh⟩ := var_heap h1 h3
  obtain rfl : 1 = g := Option.some.inj ((show Tryd.prog.globalNamed "internal/strconv.uint64pow10" = some 1 by kernel_rfl).symm.trans h1)
  obtain rfl : 175 = t := Option.some.inj ((show (Tryd.prog.globals[1]?).map (·.type) = some 175 by kernel_rfl).symm.trans h2)
  have hc := Lib.cells_of_tab (e := 169) (n := 20) (by kernel_rfl) (by kernel_rfl) (by kernel_rfl) (by kernel_rfl) h4
  intro x hx
  obtain rfl : x = (1, Lib.pow10Tab.map fun z => Value.int .u64 z) := List.mem_singleton.1 hx
  refine ⟨(Array.getElem?_eq_some_iff.1 hh).1, ty, m, ?_⟩
  rw [hh, ← hc]
theorem wants_all {P : Program} {l : Array TypeId} (h : (l.toList.all fun t => !P.wantsStandIn t) = true) {j : Nat} {t : TypeId} (ht : l[j]? = some t) : P.wantsStandIn t = false := by
  have := List.all_eq_true.1 h t (by
    rw [← Array.getElem?_toList] at ht
    exact List.mem_of_getElem? ht)
  simpa using this
end Go.Proofs.YtpmjpogcaglphaaDoor
/- stringslite.IndexByte: where a byte is first met. -/
namespace Go.Proofs.YtpmjpogcaglphaaDoor.A
open Go
noncomputable def ren4 : Shelf.Ren := ⟨fun x => if x = 217 then 98 else if x = 266 then 100 else 0, fun x => x, fun x => x⟩
theorem lays4 : Lays.n217 Tryd.prog ren4 where
  mixed := mixed
  f217 := by kernel_rfl
  f266 := by kernel_rfl
  t3 := by kernel_rfl
  a3 := run_isAgg_plain (show Tryd.prog.underlying 3 = some (.int .i64) by kernel_rfl) rfl
  z3 := fun w => by kernel_rfl
  v3 := fun w => by kernel_rfl
  t5 := by kernel_rfl
  a5 := run_isAgg_plain (show Tryd.prog.underlying 5 = some (.int .u8) by kernel_rfl) rfl
  z5 := fun w => by kernel_rfl
  v5 := fun w => by kernel_rfl
  t9 := by kernel_rfl
  a9 := run_isAgg_plain (show Tryd.prog.underlying 9 = some .string by kernel_rfl) rfl
  z9 := fun w => by kernel_rfl
  v9 := fun w => by kernel_rfl
def RIx (args : List AV) (r : AV) : Prop := ∃ (s : List UInt8) (c : Int), args = [.str s, .int .u8 c] ∧ r = .int .i64 (Lib.indexByte s c.toNat.toUInt8)
theorem RIx_ok (args r) (h : RIx args r) : Ok Tryd.prog 98 args r := by
  obtain ⟨s, c, rfl, rfl⟩ := h
  refine ⟨⟨Tryd.f98, Tryd.func98, by kernel_rfl, by kernel_rfl⟩, fun S w cargs ha hS _ => ?_⟩
  obtain ⟨hl, hr⟩ := ha
  match cargs, hl with
  | [u, v], _ =>
    have h0 := hr 0 _ _ rfl rfl
    have h1 := hr 1 _ _ rfl rfl
    cases h0
    cases h1
    refine (Any.stringslite_IndexByte lays4 ⟨s.toArray⟩ c w).mono ?_
    rintro e w' ⟨rfl, rfl⟩
    exact ⟨_, S, rfl, RowKit.Below.refl _ _, .int _ _, fun _ h => h, fun b hb => ⟨.inl hb, hS b hb⟩⟩
end Go.Proofs.YtpmjpogcaglphaaDoor.A
/- law8's 'known' answers true: one run by the kernel. -/
namespace Go.Proofs.YtpmjpogcaglphaaDoor.A
open Go
def mode8 (f : FuncId) : Mode := if f = 98 then .ext true else if f ∈ [99, 101, 102, 103, 71, 87, 88, 72, 86, 19, 27, 17, 81, 95, 51, 52, 53, 61, 62] then .pure true else if f ∈ [69, 45, 75, 46, 47, 79, 96, 97, 16, 24, 40, 41] then .pure false else .raw false
def ext8 : FuncId → List AV → Option AV := fun f args => if f = 98 then (match args with | [.str s, .int .u8 c] => some (.int .i64 (Lib.indexByte s c.toNat.toUInt8)) | _ => none) else none
noncomputable def E8 : Env := { P := Tryd.prog, mode := mode8, ext := ext8 }
theorem ext8_ok : CPSound Tryd.prog ext8 := by
  intro g args r h
  unfold ext8 at h
  split at h
  · rename_i e
    subst e
    split at h
    · rename_i s c
      injection h with h
      subst h
      exact RIx_ok _ _ ⟨s, c, rfl, rfl⟩
    · cases h
  · cases h
theorem known8_run : (calls E8 60).1 14 [] = some (.bool true) := by kernel_rfl
theorem known8_ok : Ok Tryd.prog 14 [] (.bool true) := ok_calls (E := E8) ext8_ok mixed known8_run
end Go.Proofs.YtpmjpogcaglphaaDoor.A
/- The table of contracts for the closed laws of least machines. -/
namespace Go.Proofs.YtpmjpogcaglphaaDoor.A
open Go
def RKn8 (args : List AV) (r : AV) : Prop := args = [] ∧ r = .bool true
theorem RKn8_fn : Fun1 RKn8 := by rintro args r r' ⟨_, rfl⟩ ⟨_, rfl⟩; rfl
theorem RKn8_ok (args r) (h : RKn8 args r) : Ok Tryd.prog 14 args r := by obtain ⟨rfl, rfl⟩ := h; exact known8_ok
noncomputable def XM8 : FuncId → List AV → Option AV := tabLook [(14, tRel RKn8), (24, (calls E8 1000).1 24), (19, (calls E8 1000).1 19), (30, tRel RW)]
theorem XM8_ok : CPSound Tryd.prog XM8 := tab_cons (tab_cons (tab_cons (tab_cons (tab_nil _) (tRel_ok within4_ok)) (fun args r h => ok_calls (E := E8) ext8_ok mixed h)) (fun args r h => ok_calls (E := E8) ext8_ok mixed h)) (tRel_ok RKn8_ok)
theorem XM8_known : XM8 14 [] = some (.bool true) := tRel_eq (R := RKn8) RKn8_fn ⟨rfl, rfl⟩
theorem XM8_within (a n : Int) (h1 : 0 < n) (h2 : n ≤ 1000000) : XM8 30 [.int .i64 a, .int .i64 n] = some (.int .i64 (a % n)) := rw_eq h1 h2
/-- One text: its machine has so many states, is steady or not. -/
noncomputable def mknChk (x : List UInt8 × Int × Bool) : Bool := match XM8 24 [.str x.1] with
  | some (.tup [.agg [.sl n cs, .sl m bs], .int .i64 0]) => decide ((n : Int) = x.2.1) && (match XM8 19 [.agg [.sl n cs, .sl m bs]] with | some (.bool v) => v == x.2.2 | _ => false)
  | _ => false
theorem mkn_one {x : List UInt8 × Int × Bool} (hc : mknChk x = true) : ∃ n cs m bs, XM8 24 [.str x.1] = some (.tup [.agg [.sl n cs, .sl m bs], .int .i64 0]) ∧ (n : Int) = x.2.1 ∧ XM8 19 [.agg [.sl n cs, .sl m bs]] = some (.bool x.2.2) := by
  unfold mknChk at hc
  split at hc
  · rename_i n cs m bs e
    rw [Bool.and_eq_true] at hc
    refine ⟨n, cs, m, bs, e, of_decide_eq_true hc.1, ?_⟩
    have h2 := hc.2
    split at h2
    · rename_i v e2
      rw [e2, eq_of_beq h2]
    · cases h2
  · cases hc
end Go.Proofs.YtpmjpogcaglphaaDoor.A
/- Texts and their least machines: runs by the kernel, 0 to 3. -/
namespace Go.Proofs.YtpmjpogcaglphaaDoor.A
open Go
set_option maxRecDepth 20000
theorem mkn0 : mknChk ([48], 1, true) = true := by kernel_rfl
theorem mkn1 : mknChk ([95], 2, true) = true := by kernel_rfl
theorem mkn2 : mknChk ([119], 3, false) = true := by kernel_rfl
theorem mkn3 : mknChk ([46, 42], 1, true) = true := by kernel_rfl
end Go.Proofs.YtpmjpogcaglphaaDoor.A
/- Texts and their least machines: runs by the kernel, 4 to 7. -/
namespace Go.Proofs.YtpmjpogcaglphaaDoor.A
open Go
set_option maxRecDepth 20000
theorem mkn4 : mknChk ([119, 42], 2, true) = true := by kernel_rfl
theorem mkn5 : mknChk ([119, 43], 3, true) = true := by kernel_rfl
theorem mkn6 : mknChk ([119, 119], 4, false) = true := by kernel_rfl
theorem mkn7 : mknChk ([40, 119, 119, 41, 42], 3, false) = true := by kernel_rfl
end Go.Proofs.YtpmjpogcaglphaaDoor.A
/- Texts and their least machines: runs by the kernel, 8 to 11. -/
namespace Go.Proofs.YtpmjpogcaglphaaDoor.A
open Go
set_option maxRecDepth 20000
theorem mkn8 : mknChk ([119, 42, 98, 42], 3, true) = true := by kernel_rfl
theorem mkn9 : mknChk ([119, 42, 124, 98, 42], 4, true) = true := by kernel_rfl
theorem mkn10 : mknChk ([119, 98], 4, false) = true := by kernel_rfl
theorem mkn11 : mknChk ([91, 119, 98, 93, 42, 99, 91, 119, 98, 93, 42], 3, false) = true := by kernel_rfl
end Go.Proofs.YtpmjpogcaglphaaDoor.A
/- Texts and their least machines: runs by the kernel, 12 to 15. -/
namespace Go.Proofs.YtpmjpogcaglphaaDoor.A
open Go
set_option maxRecDepth 20000
theorem mkn12 : mknChk ([119, 123, 51, 44, 51, 125], 5, false) = true := by kernel_rfl
theorem mkn13 : mknChk ([119, 42, 99, 42, 119, 42], 4, true) = true := by kernel_rfl
theorem mkn14 : mknChk ([46, 63], 3, false) = true := by kernel_rfl
theorem mkn15 : mknChk ([40, 119, 124, 98, 41, 42], 2, true) = true := by kernel_rfl
end Go.Proofs.YtpmjpogcaglphaaDoor.A
namespace Go.Proofs.YtpmjpogcaglphaaDoor.A
open Go
set_option maxRecDepth 20000
def mknL : List (List UInt8 × Int × Bool) := [([48], 1, true), ([95], 2, true), ([119], 3, false), ([46, 42], 1, true), ([119, 42], 2, true), ([119, 43], 3, true), ([119, 119], 4, false), ([40, 119, 119, 41, 42], 3, false), ([119, 42, 98, 42], 3, true), ([119, 42, 124, 98, 42], 4, true), ([119, 98], 4, false), ([91, 119, 98, 93, 42, 99, 91, 119, 98, 93, 42], 3, false), ([119, 123, 51, 44, 51, 125], 5, false), ([119, 42, 99, 42, 119, 42], 4, true), ([46, 63], 3, false), ([40, 119, 124, 98, 41, 42], 2, true)]
theorem mkn_all : ∀ x ∈ mknL, mknChk x = true := by
  intro x hx
  simp only [mknL, List.mem_cons, List.not_mem_nil, or_false] at hx
  rcases hx with rfl | rfl | rfl | rfl | rfl | rfl | rfl | rfl | rfl | rfl | rfl | rfl | rfl | rfl | rfl | rfl
  · exact mkn0
  · exact mkn1
  · exact mkn2
  · exact mkn3
  · exact mkn4
  · exact mkn5
  · exact mkn6
  · exact mkn7
  · exact mkn8
  · exact mkn9
  · exact mkn10
  · exact mkn11
  · exact mkn12
  · exact mkn13
  · exact mkn14
  · exact mkn15
def mknS : List AV := [.str [48], .str [95], .str [119], .str [46, 42], .str [119, 42], .str [119, 43], .str [119, 119], .str [40, 119, 119, 41, 42], .str [119, 42, 98, 42], .str [119, 42, 124, 98, 42], .str [119, 98], .str [91, 119, 98, 93, 42, 99, 91, 119, 98, 93, 42], .str [119, 123, 51, 44, 51, 125], .str [119, 42, 99, 42, 119, 42], .str [46, 63], .str [40, 119, 124, 98, 41, 42]]
def mknN : List AV := [.int .i64 1, .int .i64 2, .int .i64 3, .int .i64 1, .int .i64 2, .int .i64 3, .int .i64 4, .int .i64 3, .int .i64 3, .int .i64 4, .int .i64 4, .int .i64 3, .int .i64 5, .int .i64 4, .int .i64 3, .int .i64 2]
def mknT : List AV := [.bool true, .bool true, .bool false, .bool true, .bool true, .bool true, .bool false, .bool false, .bool true, .bool true, .bool false, .bool false, .bool false, .bool true, .bool false, .bool true]
theorem mreg3 (X a o nx) (Q : WPost) : WP (EX md0 X) noR 10 (fun _ => none) (pathC [1, 1, 0] (Tryd.f6.body.getD .skip)) a o nx Q = Q .normal (A.put (A.put a 11 (.ref (nx, 11) (nx, 11) 0 16)) 3 (.ref (nx, 11) (nx, 11) 0 16)) (upd o (nx, 11) (.row ⟨9, 1, (nx, 11), false, true, mknS⟩)) (nx + 1) := by kernel_rfl
theorem mreg4 (X a o nx) (Q : WPost) : WP (EX md0 X) noR 10 (fun _ => none) (pathC [1, 1, 1, 0] (Tryd.f6.body.getD .skip)) a o nx Q = Q .normal (A.put (A.put a 12 (.ref (nx, 12) (nx, 12) 0 16)) 4 (.ref (nx, 12) (nx, 12) 0 16)) (upd o (nx, 12) (.row ⟨3, 1, (nx, 12), false, true, mknN⟩)) (nx + 1) := by kernel_rfl
theorem mreg5 (X a o nx) (Q : WPost) : WP (EX md0 X) noR 10 (fun _ => none) (pathC [1, 1, 1, 1, 0] (Tryd.f6.body.getD .skip)) a o nx Q = Q .normal (A.put (A.put a 13 (.ref (nx, 13) (nx, 13) 0 16)) 5 (.ref (nx, 13) (nx, 13) 0 16)) (upd o (nx, 13) (.row ⟨4, 1, (nx, 13), false, true, mknT⟩)) (nx + 1) := by kernel_rfl
theorem lookMkn (X) : lookedAt (EX md0 X) (fun _ => none) 1 Tryd.f6 = true := by kernel_rfl
set_option maxHeartbeats 4000000 in
theorem mkn_wp (X : FuncId → List AV → Option AV) (which : Int) (hkn : X 14 [] = some (.bool true)) (hwi : X 30 [.int .i64 which, .int .i64 16] = some (.int .i64 (which % 16)))
    (hp : ∀ x ∈ mknL, ∃ n cs m bs, X 24 [.str x.1] = some (.tup [.agg [.sl n cs, .sl m bs], .int .i64 0]) ∧ (n : Int) = x.2.1 ∧ X 19 [.agg [.sl n cs, .sl m bs]] = some (.bool x.2.2)) :
    WP (EX md0 X) noR 10 (fun _ => none) (Tryd.f6.body.getD .skip) (begin_ [.int .i64 which]) (fun _ => none) 0 (fun u a o nx => (u = .normal ∨ u = .ret) ∧ view o vDepth (a 2) = .bool true) := by
  have h0 := Int.emod_nonneg which (show (16 : Int) ≠ 0 by decide)
  have h1 := Int.emod_lt_of_pos which (show (0 : Int) < 16 by decide)
  generalize which % 16 = q at *
  have r3 := mreg3 X
  have r4 := mreg4 X
  have r5 := mreg5 X
  obtain ⟨c3, h3⟩ : ∃ c, c = pathC [1, 1, 0] (Tryd.f6.body.getD .skip) := ⟨_, rfl⟩
  obtain ⟨c4, h4⟩ : ∃ c, c = pathC [1, 1, 1, 0] (Tryd.f6.body.getD .skip) := ⟨_, rfl⟩
  obtain ⟨c5, h5⟩ : ∃ c, c = pathC [1, 1, 1, 1, 0] (Tryd.f6.body.getD .skip) := ⟨_, rfl⟩
  rw [← h3] at r3
  rw [← h4] at r4
  rw [← h5] at r5
  simp only [Tryd.f6, Option.getD_some, pathC] at h3 h4 h5
  simp only [Tryd.f6, Option.getD_some]
  rw [← h3, ← h4, ← h5]
  clear h3 h4 h5
  obtain ⟨k, rfl⟩ := Int.eq_ofNat_of_zero_le h0
  have hwi : X 30 [.int .i64 which, .int .i64 ((16 : Nat) : Int)] = some (.int .i64 k) := hwi
  simp (disch := omega) only [go_sem, ↓IntWalk.iteOmega, IntWalk.toNatUp, Nat.reduceEqDiff, Nat.reduceAdd, Nat.reduceMul, Nat.reduceSub, Nat.reduceLT, Nat.reduceLeDiff, Int.reduceToNat, Int.reduceLT, Int.reduceLE, Int.reduceEq, Int.reduceAdd, Int.reduceSub, Int.reduceMul, Int.toNat_natCast, reduceCtorEq, decide_true, decide_false, IntWalk.i64_in, IntWalk.u64_in, IntWalk.u8_in, hkn, r3, r4, r5]
  obtain ⟨L, hL⟩ : ∃ L : List AV, L = mknS := ⟨_, rfl⟩
  obtain ⟨M, hM⟩ : ∃ M : List AV, M = mknN := ⟨_, rfl⟩
  obtain ⟨U, hU⟩ : ∃ U : List AV, U = mknT := ⟨_, rfl⟩
  rw [← hL, ← hM, ← hU]
  have hLl : L.length = 16 := by rw [hL]; rfl
  have hMl : M.length = 16 := by rw [hM]; rfl
  have hUl : U.length = 16 := by rw [hU]; rfl
  obtain ⟨x, hx, e1, e2, e3⟩ : ∃ x ∈ mknL, take1 false 1 (L.drop k) = some (.str x.1) ∧ take1 false 1 (M.drop k) = some (.int .i64 x.2.1) ∧ take1 false 1 (U.drop k) = some (.bool x.2.2) := by
    have hq : k = 0 ∨ k = 1 ∨ k = 2 ∨ k = 3 ∨ k = 4 ∨ k = 5 ∨ k = 6 ∨ k = 7 ∨ k = 8 ∨ k = 9 ∨ k = 10 ∨ k = 11 ∨ k = 12 ∨ k = 13 ∨ k = 14 ∨ k = 15 := by omega
    rcases hq with h | h | h | h | h | h | h | h | h | h | h | h | h | h | h | h
    · exact ⟨([48], 1, true), (by simp [mknL]), (by rw [hL, h]; rfl), (by rw [hM, h]; rfl), (by rw [hU, h]; rfl)⟩
    · exact ⟨([95], 2, true), (by simp [mknL]), (by rw [hL, h]; rfl), (by rw [hM, h]; rfl), (by rw [hU, h]; rfl)⟩
    · exact ⟨([119], 3, false), (by simp [mknL]), (by rw [hL, h]; rfl), (by rw [hM, h]; rfl), (by rw [hU, h]; rfl)⟩
    · exact ⟨([46, 42], 1, true), (by simp [mknL]), (by rw [hL, h]; rfl), (by rw [hM, h]; rfl), (by rw [hU, h]; rfl)⟩
    · exact ⟨([119, 42], 2, true), (by simp [mknL]), (by rw [hL, h]; rfl), (by rw [hM, h]; rfl), (by rw [hU, h]; rfl)⟩
    · exact ⟨([119, 43], 3, true), (by simp [mknL]), (by rw [hL, h]; rfl), (by rw [hM, h]; rfl), (by rw [hU, h]; rfl)⟩
    · exact ⟨([119, 119], 4, false), (by simp [mknL]), (by rw [hL, h]; rfl), (by rw [hM, h]; rfl), (by rw [hU, h]; rfl)⟩
    · exact ⟨([40, 119, 119, 41, 42], 3, false), (by simp [mknL]), (by rw [hL, h]; rfl), (by rw [hM, h]; rfl), (by rw [hU, h]; rfl)⟩
    · exact ⟨([119, 42, 98, 42], 3, true), (by simp [mknL]), (by rw [hL, h]; rfl), (by rw [hM, h]; rfl), (by rw [hU, h]; rfl)⟩
    · exact ⟨([119, 42, 124, 98, 42], 4, true), (by simp [mknL]), (by rw [hL, h]; rfl), (by rw [hM, h]; rfl), (by rw [hU, h]; rfl)⟩
    · exact ⟨([119, 98], 4, false), (by simp [mknL]), (by rw [hL, h]; rfl), (by rw [hM, h]; rfl), (by rw [hU, h]; rfl)⟩
    · exact ⟨([91, 119, 98, 93, 42, 99, 91, 119, 98, 93, 42], 3, false), (by simp [mknL]), (by rw [hL, h]; rfl), (by rw [hM, h]; rfl), (by rw [hU, h]; rfl)⟩
    · exact ⟨([119, 123, 51, 44, 51, 125], 5, false), (by simp [mknL]), (by rw [hL, h]; rfl), (by rw [hM, h]; rfl), (by rw [hU, h]; rfl)⟩
    · exact ⟨([119, 42, 99, 42, 119, 42], 4, true), (by simp [mknL]), (by rw [hL, h]; rfl), (by rw [hM, h]; rfl), (by rw [hU, h]; rfl)⟩
    · exact ⟨([46, 63], 3, false), (by simp [mknL]), (by rw [hL, h]; rfl), (by rw [hM, h]; rfl), (by rw [hU, h]; rfl)⟩
    · exact ⟨([40, 119, 124, 98, 41, 42], 2, true), (by simp [mknL]), (by rw [hL, h]; rfl), (by rw [hM, h]; rfl), (by rw [hU, h]; rfl)⟩
  clear hL hM hU
  obtain ⟨n, cs, m, bs, f1, f2, f3⟩ := hp x hx
  have hbe : (x.2.2 == x.2.2) = true := beq_self_eq_true _
  simp (disch := omega) only [go_sem, ↓IntWalk.iteOmega, IntWalk.toNatUp, Nat.reduceEqDiff, Nat.reduceAdd, Nat.reduceMul, Nat.reduceSub, Nat.reduceLT, Nat.reduceLeDiff, Int.reduceToNat, Int.reduceLT, Int.reduceLE, Int.reduceEq, Int.reduceAdd, Int.reduceSub, Int.reduceMul, Int.toNat_natCast, reduceCtorEq, decide_true, decide_false, IntWalk.i64_in, IntWalk.u64_in, IntWalk.u8_in, hwi, e1, e2, e3, f1, f2, f3, hbe, hLl, hMl, hUl]
theorem mkn_ok (which : Int) : Ok Tryd.prog 6 [.int .i64 which] (.bool true) := by
  refine ok_of_WP (E := EX md0 XM8) (cr := noR) XM8_ok (noR_ok _) mixed (k := 10) Tryd.func6 (lookMkn _) rfl (WP_mono (mkn_wp XM8 which XM8_known (XM8_within which 16 (by omega) (by omega)) (fun x hx => mkn_one (mkn_all x hx))) ?_)
  rintro u a o nx ⟨h, hv⟩
  refine ⟨h, ?_⟩
  simp only [Tryd.f6]
  simp (disch := omega) only [go_sem, ↓IntWalk.iteOmega, IntWalk.toNatUp, Nat.reduceEqDiff, Nat.reduceAdd, Nat.reduceMul, Nat.reduceSub, Nat.reduceLT, Nat.reduceLeDiff, Int.reduceToNat, Int.reduceLT, Int.reduceLE, Int.reduceEq, Int.reduceAdd, Int.reduceSub, Int.reduceMul, Int.toNat_natCast, reduceCtorEq, decide_true, decide_false, IntWalk.i64_in, IntWalk.u64_in, IntWalk.u8_in]
  exact hv
end Go.Proofs.YtpmjpogcaglphaaDoor.A

namespace Go.Proofs.YtpmjpogcaglphaaDoor
open Go Go.Proofs.YtpmjpogcaglphaaDoor.A
set_option maxRecDepth 100000 in
theorem miniKnown_lifted (os : Os) (started : os.Started) (H : Type) (enc : TypeId × Value → H) :
    ReturnsInHanded {} Tryd.checked os 6 .any (fun w args => (Rows.miniKnownSpec.pre enc Tryd.prog Tryd.f6 [] false w args ∧ laidMetH Tryd.prog laidL w) ∧ sizedMet enc Tryd.prog Tryd.f6 (OpenSpec.ofChange Rows.miniKnownSpec) false w args) (Rows.miniKnownSpec.post enc Tryd.prog Tryd.f6 false true false false) :=
  law_laid (C := Tryd.checked) (L := laidL) laidL_noh Tryd.own started (by kernel_rfl) Tryd.func6
    (ChangeSpec.witness_at (enc := enc) (C := Tryd.checked) (os := os) (X := fun w _ => laidMetH Tryd.prog laidL w) false (laidWorld os) #[.int .i64 0] 8 rfl (by kernel_rfl) (by kernel_rfl) (by kernel_rfl) (by kernel_rfl) (by kernel_rfl) (laidWorld_met os _))
    Tryd.laidOut (ks := [3]) (by kernel_rfl) (by kernel_rfl) (tb := 4) (by kernel_rfl) (by kernel_rfl) rfl
    (fun ds hds => by
      match ds, hds with
      | [_], _ => exact ⟨rfl, rfl, rfl⟩)
    laid_gl (fun xs hxs => by
      rw [show Tryd.f6.params.toList = [3] from rfl] at hxs
      match xs, hxs with
      | [x1], ⟨h1, _⟩ =>
        obtain ⟨n1, rfl, _⟩ := arg_int (k := .i64) (by kernel_rfl) h1
        exact mkn_ok n1)
theorem miniKnown_row_holds : Rows.MiniKnownSaid :=
  OpenClaim.holds_of_wide 6 Tryd.f6 rfl rfl rfl rfl rfl rfl rfl ⟨rfl, rfl, rfl, rfl, rfl⟩ rfl rfl rfl rfl rfl (by kernel_rfl) Tryd.func6 (by kernel_rfl)
    (of_decide_eq_true (by kernel_rfl)) (by unfold Func.isWrapper; first | (rw [if_pos (by decide +kernel)]; kernel_rfl) | (rw [if_neg (by decide +kernel)]; exact ⟨rfl, rfl⟩))
    (fun os started H enc _ => miniKnown_lifted os started H enc)
theorem miniKnown_card_holds : Rows.MiniKnownCardSaid :=
  Claim7.holds_tied_plain_at .later [] [.data, .data, .data] true (true, "102ca1f5da5c52998f5edfe949f841430b613cce0079492f5bc01c543bb3a885") false
    miniKnown_row_holds (fun _ h => by cases h) (by kernel_rfl) (fun _ h => by cases h) miniKnown_row_tie rfl ⟨rfl, rfl⟩ (by kernel_rfl) rfl
    (fun f fn hf hfn => by
      obtain rfl : f = 6 := (Option.some.inj ((show Tryd.prog.funcNamed "milestone/milestonelaw8.MiniKnown" = some 6 by kernel_rfl).symm.trans hf)).symm
      obtain rfl : fn = Tryd.f6 := (Option.some.inj (Tryd.func6.symm.trans hfn)).symm
      refine ⟨by kernel_rfl, fun j t ht => ?_⟩
      exact (wants_all (by kernel_rfl : (Tryd.f6.params.toList.all fun t => !Tryd.prog.wantsStandIn t) = true) ht))
    (by kernel_rfl)
end Go.Proofs.YtpmjpogcaglphaaDoor
