/- A, part 30: slices that a call makes, rows of them; pairs and steps in cells; a contract out of a walk. -/
import Derived.Test.YtpmjpogcaglphaaDoorMLMLaws3
set_option linter.unusedVariables false
set_option linter.unusedSimpArgs false
set_option linter.unnecessarySimpa false
namespace Go.Proofs.YtpmjpogcaglphaaDoor.A
open Go
def cP (l : List (Int × Int)) : List AV := l.flatMap fun p => [.int .i64 p.1, .int .i64 p.2]
def cS (l : List (Int × Int × Int)) : List AV := l.flatMap fun p => [.int .i64 p.1, .int .i64 p.2.1, .int .i64 p.2.2]
@[go_sem] theorem cV7 : cP [] = [] := rfl
@[go_sem] theorem cV8 : cS [] = [] := rfl
theorem bL4 (x y) : cP (x ++ y) = cP x ++ cP y := by simp [cP]
theorem cm0 (x y) : cS (x ++ y) = cS x ++ cS y := by simp [cS]
@[go_sem] theorem K6 (l) : (cP l).length = l.length * 2 := by
 induction l with
 | nil => rfl
 | cons p l ih => simp only [cP, List.flatMap_cons, List.length_append, List.length_cons, List.length_nil] at ih ⊢; omega
@[go_sem] theorem ao0 (l) : (cS l).length = l.length * 3 := by
 induction l with
 | nil => rfl
 | cons p l ih => simp only [cS, List.flatMap_cons, List.length_append, List.length_cons, List.length_nil] at ih ⊢; omega
@[go_sem] theorem dh3 (l) : (cP l).all n9 = true := by
 induction l with
 | nil => rfl
 | cons p l ih => simpa [cP, n9] using ih
@[go_sem] theorem dh4 (l) : (cS l).all n9 = true := by
 induction l with
 | nil => rfl
 | cons p l ih => simpa [cS, n9] using ih
@[go_sem] theorem cK3 (o d l) : (cP l).map (view o d) = cP l := by
 induction l with
 | nil => rfl
 | cons p l ih => simpa [cP, aa9] using ih
@[go_sem] theorem cK4 (o d l) : (cS l).map (view o d) = cS l := by
 induction l with
 | nil => rfl
 | cons p l ih => simpa [cS, aa9] using ih
@[go_sem] theorem cK5 (o d l) : (cP l).flatMap (b9 o d) = [] := by
 induction l with
 | nil => rfl
 | cons p l ih => simpa [cP, ab0] using ih
@[go_sem] theorem cK6 (o d l) : (cS l).flatMap (b9 o d) = [] := by
 induction l with
 | nil => rfl
 | cons p l ih => simpa [cS, ab0] using ih
theorem aM8 {l : List (Int × Int)} {i : Nat} (h : i < l.length) : (cP l).drop (i * 2) = .int .i64 (l.getD i (0, 0)).1 :: .int .i64 (l.getD i (0, 0)).2 :: cP (l.drop (i + 1)) := by
 induction l generalizing i with
 | nil => simp at h
 | cons p l ih =>
  cases i with
  | zero => rfl
  | succ i =>
   have : (i + 1) * 2 = i * 2 + 2 := by omega
   rw [this]
   have := ih (i := i) (by simpa using h)
   simpa [cP] using this
theorem cm1 {l : List (Int × Int × Int)} {i : Nat} (h : i < l.length) : (cS l).drop (i * 3) = .int .i64 (l.getD i (0, 0, 0)).1 :: .int .i64 (l.getD i (0, 0, 0)).2.1 :: .int .i64 (l.getD i (0, 0, 0)).2.2 :: cS (l.drop (i + 1)) := by
 induction l generalizing i with
 | nil => simp at h
 | cons p l ih =>
  cases i with
  | zero => rfl
  | succ i =>
   have : (i + 1) * 3 = i * 3 + 3 := by omega
   rw [this]
   have := ih (i := i) (by simpa using h)
   simpa [cS] using this
theorem av5 {cs : List AV} {i s : Nat} (h : i < cs.length) : M5 false s (cs.drop i) = some (cs.getD i .nil) := by
 rw [W0 h]; simp [List.getD, h]
theorem j0 {α : Type} {l : List α} {n : Nat} (h : l.length = n) : l.take n = l := by rw [← h]; exact List.take_length
theorem t8 {α : Type} {l : List α} {i : Nat} (h : i < l.length) (d : α) : l.take (i + 1) = l.take i ++ [l.getD i d] := by
 rw [List.take_add_one]; simp [List.getD, h]
@[go_sem] theorem cV9 (l) : (cI l).take l.length = cI l := j0 (by simp [cI])
@[go_sem] theorem cW0 (l) : (cB l).take l.length = cB l := j0 (by simp [cB])
@[go_sem] theorem cW1 (l) : (cP l).take (l.length * 2) = cP l := j0 (by simp [K6])
@[go_sem] theorem cW2 (l) : (cS l).take (l.length * 3) = cS l := j0 (by simp [ao0])
def HS (e sz D : Nat) (o : Ob) (nx : Nat) (v : AV) (n : Nat) (cs : List AV) : Prop :=
 (v = .nil ∧ n = 0 ∧ cs = []) ∨ ∃ i g, v = .ref (i, D) g 0 n ∧ i < nx ∧ o (i, D) = some (.row ⟨e, sz, g, false, true, cs⟩) ∧ cs.length = n * sz
theorem HS.nil {e sz D o nx} : HS e sz D o nx .nil 0 [] := .inl ⟨rfl, rfl, rfl⟩
theorem HS.keep {e sz D o nx v n cs} (h : HS e sz D o nx v n cs) {o' : Ob} {nx' : Nat} (ho : ∀ i, i < nx → o' (i, D) = o (i, D)) (hn : nx ≤ nx') : HS e sz D o' nx' v n cs := by
 rcases h with h | ⟨i, g, h1, h2, h3, h4⟩
 ·exact .inl h
 ·exact .inr ⟨i, g, h1, by omega, by rw [ho i h2, h3], h4⟩
theorem HS.ok {e sz D o nx v n cs} (h : HS e sz D o nx v n cs) : n9 v = true := by
 rcases h with ⟨rfl, _⟩ | ⟨i, g, rfl, _⟩ <;> rfl
theorem HS.cells {e sz D o nx v n cs} (h : HS e sz D o nx v n cs) : v.cells = [v] := by
 rcases h with ⟨rfl, _⟩ | ⟨i, g, rfl, _⟩ <;> rfl
theorem HS.len {e sz D o nx v n cs} (h : HS e sz D o nx v n cs) : cs.length = n * sz := by
 rcases h with ⟨_, rfl, rfl⟩ | ⟨i, g, _, _, _, h⟩
 ·simp
 ·exact h
theorem HS.view {e sz D o nx v n cs} (h : HS e sz D o nx v n cs) (d : Nat) : view o (d + 1) v = .sl n (cs.map (view o d)) := by
 rcases h with ⟨rfl, rfl, rfl⟩ | ⟨i, g, rfl, _, h3, h4⟩
 ·rfl
 ·rw [bz8, h3, ae9, ba6]
  simp only [Nat.zero_add, List.drop_zero]
  rw [if_pos (by omega), j0 h4]
theorem aT3 {D : Nat} {l : List Tag} (h : ∀ t ∈ l, t.2 = D) {i j : Nat} (hj : j ≠ D) : nin (i, j) l = true := by
 unfold nin
 have : (i, j) ∉ l := fun hm => hj (h _ hm)
 simp [this]
theorem HS.tags {e sz D o nx v n cs} (h : HS e sz D o nx v n cs) (d : Nat) (hf : cs.flatMap (b9 o d) = []) : ∀ t ∈ b9 o (d + 1) v, t.2 = D := by
 rcases h with ⟨rfl, rfl, rfl⟩ | ⟨i, g, rfl, _, h3, h4⟩
 ·intro t ht; cases ht
 ·rw [bA1, h3, ae9, ba7, List.drop_zero, j0 h4, hf]
  intro t ht
  rw [List.mem_singleton.1 ht]
theorem HS.nin {e sz D o nx v n cs} (h : HS e sz D o nx v n cs) (d : Nat) (hf : cs.flatMap (b9 o d) = []) {i j : Nat} (hj : j ≠ D) : A.nin (i, j) (b9 o (d + 1) v) = true := aT3 (h.tags d hf) hj
def NI (D : Nat) (o : Ob) (nx : Nat) (cs : List AV) (rows : List (List Int)) : Prop :=
 cs.length = rows.length ∧ (∀ j, j < rows.length → HS 3 1 D o nx (cs.getD j .nil) (rows.getD j []).length (cI (rows.getD j []))) ∧
  ∀ j j' i g n g' n', j < j' → cs.getD j .nil = .ref (i, D) g 0 n → cs.getD j' .nil ≠ .ref (i, D) g' 0 n'
theorem NI.keep {D o nx cs rows} (h : NI D o nx cs rows) {o' : Ob} {nx' : Nat} (ho : ∀ i, i < nx → o' (i, D) = o (i, D)) (hn : nx ≤ nx') : NI D o' nx' cs rows :=
 ⟨h.1, fun j hj => (h.2.1 j hj).keep ho hn, h.2.2⟩
theorem NI.start (D o nx) (n : Nat) : NI D o nx (List.replicate n .nil) (List.replicate n []) := by
 refine ⟨by simp, fun j hj => ?_, fun j j' i g m g' m' hj h => ?_⟩
 ·have hj : j < n := by simpa using hj
  have e1 : (List.replicate n AV.nil).getD j .nil = .nil := by simp [List.getD, List.getElem?_replicate, hj]
  have e2 : (List.replicate n ([] : List Int)).getD j [] = [] := by simp [List.getD, List.getElem?_replicate, hj]
  rw [e1, e2]
  exact .inl ⟨rfl, rfl, rfl⟩
 ·by_cases hj : j < n
  ·have e1 : (List.replicate n AV.nil).getD j .nil = .nil := by simp [List.getD, List.getElem?_replicate, hj]
   rw [e1] at h; cases h
  ·have e1 : (List.replicate n AV.nil).getD j .nil = .nil := by simp [List.getD, List.getElem?_replicate, hj]
   rw [e1] at h; cases h
theorem B7 {α : Type} (l : List α) (i j : Nat) (x d : α) (hi : i < l.length) : (l.set i x).getD j d = if i = j then x else l.getD j d := by
 simp only [List.getD, List.getElem?_set]
 by_cases h : i = j
 ·subst h; simp [hi]
 ·simp [h]
theorem NI.set {D o nx cs rows} (h : NI D o nx cs rows) {j : Nat} (hj : j < rows.length) {o' : Ob} {nx' : Nat} {i : Nat} {g : Tag} {l : List Int} {n : Nat} (hl : n = l.length) (hn : nx ≤ nx') (hi : i < nx')
  (hnew : cs.getD j .nil = .nil ∧ nx ≤ i ∨ ∃ g0 n0, cs.getD j .nil = .ref (i, D) g0 0 n0) (ho : ∀ i', i' < nx → i' ≠ i → o' (i', D) = o (i', D)) (hrow : o' (i, D) = some (.row ⟨3, 1, g, false, true, cI l⟩)) :
  NI D o' nx' (cs.set j (.ref (i, D) g 0 n)) (rows.set j l) := by
 subst hl
 obtain ⟨h1, h2, h3⟩ := h
 have hjc : j < cs.length := by omega
 have apart : ∀ j', j' ≠ j → ∀ g' n', cs.getD j' .nil = .ref (i, D) g' 0 n' → j' < rows.length → False := fun j' hne g' n' he hlt => by
  rcases hnew with ⟨_, hi'⟩ | ⟨g0, n0, he0⟩
  ·rcases h2 j' hlt with ⟨e, _⟩ | ⟨i1, g1, e, hi1, _⟩
   ·rw [e] at he; cases he
   ·rw [e] at he; injection he with he; injection he with he; omega
  ·rcases Nat.lt_or_gt_of_ne hne with hlt' | hlt'
   ·exact h3 j' j i g' n' g0 n0 hlt' he he0
   ·exact h3 j j' i g0 n0 g' n' hlt' he0 he
 have out : ∀ j', ¬ j' < rows.length → cs.getD j' .nil = .nil := fun j' hj' => by
  simp [List.getD, List.getElem?_eq_none (show cs.length ≤ j' by omega)]
 refine ⟨by simpa using h1, fun j' hj' => ?_, fun j1 j2 i1 g1 n1 g2 n2 hlt e1 e2 => ?_⟩
 ·have hj'' : j' < rows.length := by simpa using hj'
  rw [B7 _ _ _ _ _ hjc, B7 _ _ _ _ _ hj]
  by_cases e : j = j'
  ·rw [if_pos e, if_pos e]
   exact .inr ⟨i, g, rfl, hi, hrow, by simp [cI]⟩
  ·rw [if_neg e, if_neg e]
   rcases h2 j' hj'' with hh | ⟨i1, g1, e1, hi1, e3, e4⟩
   ·exact .inl hh
   ·refine .inr ⟨i1, g1, e1, by omega, ?_, e4⟩
    rw [ho i1 hi1 (fun hc => by subst hc; exact apart j' (fun hc => e hc.symm) _ _ e1 hj''), e3]
 ·rw [B7 _ _ _ _ _ hjc] at e1 e2
  have bound : ∀ j', (∃ i g n, cs.getD j' .nil = .ref i g 0 n) → j' < rows.length := fun j' ⟨i, g, n, he⟩ => by
   by_cases hb : j' < rows.length
   ·exact hb
   ·rw [out j' hb] at he; cases he
  by_cases c1 : j = j1
  ·rw [if_pos c1] at e1
   rw [if_neg (by omega)] at e2
   injection e1 with e1; injection e1 with e1
   subst e1
   exact apart j2 (by omega) _ _ e2 (bound j2 ⟨_, _, _, e2⟩)
  ·rw [if_neg c1] at e1
   by_cases c2 : j = j2
   ·rw [if_pos c2] at e2
    injection e2 with e2; injection e2 with e2
    subst e2
    exact apart j1 (by omega) _ _ e1 (bound j1 ⟨_, _, _, e1⟩)
   ·rw [if_neg c2] at e2
    exact h3 j1 j2 i1 g1 n1 g2 n2 hlt e1 e2
theorem NI.view {D o nx cs rows} (h : NI D o nx cs rows) (d : Nat) : cs.map (A.view o (d + 1)) = rows.map slI := by
 refine List.ext_getElem (by simpa using h.1) fun j h1 h2 => ?_
 have hj : j < rows.length := by simpa using h2
 have hjc : j < cs.length := by simpa using h1
 have := h.2.1 j hj
 have e1 : cs.getD j .nil = cs[j] := by simp [List.getD, hjc]
 have e2 : rows.getD j [] = rows[j] := by simp [List.getD, hj]
 rw [e1, e2] at this
 simp only [List.getElem_map]
 rw [this.view, T3]
def Q5 (R : List AV → AV → Prop) : Prop := ∀ args r r', R args r → R args r' → r = r'
open Classical in
noncomputable def E3 (R : List AV → AV → Prop) : List AV → Option AV := fun args => if h : ∃ r, R args r then some h.choose else none
theorem m8 {R : List AV → AV → Prop} (hf : Q5 R) {args : List AV} {r : AV} (h : R args r) : E3 R args = some r := by
 unfold E3
 rw [dif_pos ⟨r, h⟩]
 exact congrArg some (hf _ _ _ (Exists.choose_spec (p := R args) ⟨r, h⟩) h)
theorem n5 {P : Program} {f : FuncId} {R : List AV → AV → Prop} (hk : ∀ args r, R args r → Ok P f args r) : ∀ args r, E3 R args = some r → Ok P f args r := fun args r h => by
 unfold E3 at h
 split at h
 ·rename_i hh
  injection h with h
  subst h
  exact hk _ _ hh.choose_spec
 ·cases h
theorem P1 {x y : List Int} (h : cI x = cI y) : x = y := by
 unfold cI at h
 exact List.map_inj_right (fun a b h => by injection h) |>.1 h
theorem bk5 {x y : List Bool} (h : cB x = cB y) : x = y := by
 unfold cB at h
 exact List.map_inj_right (fun a b h => by injection h) |>.1 h
theorem az1 {x y : List Int} (h : slI x = slI y) : x = y := by
 unfold slI at h; injection h with _ h; exact P1 h
theorem bA5 {x y : List (List Int)} (h : x.map slI = y.map slI) : x = y := List.map_inj_right (fun a b h => az1 h) |>.1 h
theorem aG3 : ∀ {x y : List (Int × Int)}, cP x = cP y → x = y
 | [], [], _ => rfl
 | [], _ :: _, h => by cases h
 | _ :: _, [], h => by cases h
 | (a, b) :: x, (c, d) :: y, h => by
  simp only [cP, List.flatMap_cons, List.cons_append, List.nil_append, List.cons.injEq, AV.int.injEq, true_and] at h
  obtain ⟨rfl, rfl, h⟩ := h
  rw [aG3 h]
theorem aT4 : ∀ {x y : List (Int × Int × Int)}, cS x = cS y → x = y
 | [], [], _ => rfl
 | [], _ :: _, h => by cases h
 | _ :: _, [], h => by cases h
 | (a, b, e) :: x, (c, d, f) :: y, h => by
  simp only [cS, List.flatMap_cons, List.cons_append, List.nil_append, List.cons.injEq, AV.int.injEq, true_and] at h
  obtain ⟨rfl, rfl, rfl, h⟩ := h
  rw [aT4 h]
theorem ba8 {E : Env} {cr : q8} {k : Nat} {nz : Nat → Option (List (Nat × Nat))} {fn : Func} {c : Code} {args : List AV} {r : AV} (hb : fn.body = some c)
  (h : WP E cr k nz c (y0 args) (fun _ => none) 0 (fun u a o nx => (u = .normal ∨ u = .ret) ∧ wO (m4 E.P a ⟨o, nx⟩ fn.results.toList) (fun vs => A.view o n6 (ad3 vs) = r))) :
  ∃ v H', ar9 E cr k nz fn args aC8 = some (v, H') ∧ A.view H'.o n6 v = r := by
 unfold WP at h
 unfold ar9 aC8
 rw [hb]
 dsimp only
 cases he : y4 E (fun _ _ => none) cr k nz none c (y0 args) { o := fun _ => none, nx := 0 } with
 | none => rw [he] at h; exact h.elim
 | some p =>
  obtain ⟨u, a, H⟩ := p
  rw [he] at h
  obtain ⟨hu, h⟩ := h
  obtain ⟨vs, h1, h2⟩ : ∃ vs, m4 E.P a H fn.results.toList = some vs ∧ A.view H.o n6 (ad3 vs) = r := by
   unfold wO at h
   split at h
   ·rename_i vs e; exact ⟨vs, e, h⟩
   ·exact h.elim
  rcases hu with rfl | rfl
  ·dsimp only
   refine ⟨ad3 vs, H, ?_, h2⟩
   show (m4 E.P a H fn.results.toList).map _ = _
   rw [show m4 E.P a H fn.results.toList = some vs from h1]; rfl
  ·dsimp only
   refine ⟨ad3 vs, H, ?_, h2⟩
   show (m4 E.P a H fn.results.toList).map _ = _
   rw [show m4 E.P a H fn.results.toList = some vs from h1]; rfl
theorem m5 {E : Env} {cr : q8} (hX : m7 E.P E.ext) (hR : u9 E.P cr ∧ Up cr) (hm : E.P.follows .mixedOrders = true) {k : Nat} {nz : Nat → Option (List (Nat × Nat))} {fn : Func} {f : FuncId} {args : List AV} {r : AV} (hf : E.P.funcs[f]? = some fn)
  (hl : f7 E nz args.length fn = true) (hb : fn.body = some (fn.body.getD .skip))
  (h : WP E cr k nz (fn.body.getD .skip) (y0 args) (fun _ => none) 0 (fun u a o nx => (u = .normal ∨ u = .ret) ∧ wO (m4 E.P a ⟨o, nx⟩ fn.results.toList) (fun vs => A.view o n6 (ad3 vs) = r))) : Ok E.P f args r := by
 obtain ⟨v, H', h1, h2⟩ := ba8 hb h
 rw [← h2]
 exact cg4 hX hR.1 hR.2 hm hf hl h1
def noR : q8 := fun _ _ _ => none
theorem o8 (P : Program) : u9 P noR ∧ Up noR := ⟨fun g args H v H' h => (by cases h), fun g args H v H' h => (by cases h)⟩
@[go_sem] theorem ah5 (P a H) : m4 P a H [] = some [] := rfl
@[go_sem] theorem ab1 (P a H r rs) : m4 P a H (r :: rs) = bj6 (X9 P a H r) (m4 P a H rs) := rfl
@[go_sem] theorem ao1 (P a H t) : X9 P a H (.tmp t) = some (a t) := rfl
@[go_sem] theorem ah6 (P a H ad t) : X9 P a H (.cell ad t) = N4 P t (a ad) H := rfl
@[go_sem] theorem cE0 (v) : ad3 [v] = v := rfl
@[go_sem] theorem cE1 (v w) : ad3 [v, w] = .tup [v, w] := rfl
@[go_sem] theorem cf2 (v w x) : ad3 [v, w, x] = .tup [v, w, x] := rfl
def v7 : List Nat → Code → Code
 | [], c => c
 | 0 :: p, .seq a _ => v7 p a
 | 1 :: p, .seq _ b => v7 p b
 | 0 :: p, .block _ c => v7 p c
 | 0 :: p, .loop c => v7 p c
 | 0 :: p, .scope c => v7 p c
 | 0 :: p, .cond _ a _ => v7 p a
 | 1 :: p, .cond _ _ b => v7 p b
 | _, c => c
attribute [go_sem ↓] IntWalk.iteOmega
attribute [go_sem] IntWalk.toNatUp Nat.reduceEqDiff Nat.reduceAdd Nat.reduceMul Nat.reduceSub Nat.reduceLT Nat.reduceLeDiff Int.reduceToNat Int.reduceLT Int.reduceLE Int.reduceEq Int.reduceAdd Int.reduceSub Int.reduceMul Int.toNat_natCast reduceCtorEq decide_true decide_false IntWalk.i64_in IntWalk.u64_in IntWalk.u8_in
end Go.Proofs.YtpmjpogcaglphaaDoor.A
namespace Go.Proofs.YtpmjpogcaglphaaDoor.A
open Go
abbrev cK7 := List AV → AH → AV → AH → Prop
open Classical in
noncomputable def B3 (R : cK7) (args : List AV) (H : AH) : Option (AV × AH) := if h : ∃ p : AV × AH, R args H p.1 p.2 then some h.choose else none
theorem v8 {R : cK7} {args H v H'} (h : B3 R args H = some (v, H')) : R args H v H' := by
 unfold B3 at h
 split at h
 ·rename_i e
  have := e.choose_spec
  injection h with h
  rw [h] at this
  exact this
 ·cases h
theorem K7 {R : cK7} {args : List AV} {H : AH} {K : AV × AH → Prop} (h1 : ∃ v H', R args H v H') (h2 : ∀ v H', R args H v H' → K (v, H')) : wO (Option.map (fun p => p8 false p.1 p.2) (B3 R args H)) K := by
 obtain ⟨v, H', h⟩ := h1
 have e : ∃ p : AV × AH, R args H p.1 p.2 := ⟨(v, H'), h⟩
 have e2 : B3 R args H = some e.choose := by unfold B3; rw [dif_pos e]
 rw [e2]
 exact h2 _ _ e.choose_spec
theorem Q6 {E : Env} {cr : q8} {k : Nat} {nz : Nat → Option (List (Nat × Nat))} {fn : Func} {c : Code} {args : List AV} {o : Ob} {nx : Nat} {Post : AV → Ob → Nat → Prop} (hb : fn.body = some c)
  (h : WP E cr k nz c (y0 args) o nx (fun u a o' nx' => (u = .normal ∨ u = .ret) ∧ wO (m4 E.P a ⟨o', nx'⟩ fn.results.toList) (fun vs => Post (ad3 vs) o' nx'))) :
  ∃ v H', ar9 E cr k nz fn args ⟨o, nx⟩ = some (v, H') ∧ Post v H'.o H'.nx := by
 unfold WP at h
 unfold ar9
 rw [hb]
 dsimp only
 cases he : y4 E (fun _ _ => none) cr k nz none c (y0 args) ⟨o, nx⟩ with
 | none => rw [he] at h; exact h.elim
 | some p =>
  obtain ⟨u, a, H⟩ := p
  rw [he] at h
  obtain ⟨hu, h⟩ := h
  obtain ⟨vs, h1, h2⟩ : ∃ vs, m4 E.P a H fn.results.toList = some vs ∧ Post (ad3 vs) H.o H.nx := by
   unfold wO at h
   split at h
   ·rename_i vs e; exact ⟨vs, e, h⟩
   ·exact h.elim
  rcases hu with rfl | rfl
  ·dsimp only
   refine ⟨ad3 vs, H, ?_, h2⟩
   show (m4 E.P a H fn.results.toList).map _ = _
   rw [show m4 E.P a H fn.results.toList = some vs from h1]; rfl
  ·dsimp only
   refine ⟨ad3 vs, H, ?_, h2⟩
   show (m4 E.P a H fn.results.toList).map _ = _
   rw [show m4 E.P a H fn.results.toList = some vs from h1]; rfl
theorem K8 {E : Env} {cr : q8} (hX : m7 E.P E.ext) (hR : u9 E.P cr ∧ Up cr) (hm : E.P.follows .mixedOrders = true) {k : Nat} {nz : Nat → Option (List (Nat × Nat))} {fn : Func} {f : FuncId} {args : List AV} {o : Ob} {nx : Nat} {Post : AV → Ob → Nat → Prop} (hf : E.P.funcs[f]? = some fn)
  (hl : f7 E nz args.length fn = true) (hb : fn.body = some (fn.body.getD .skip))
  (h : WP E cr k nz (fn.body.getD .skip) (y0 args) o nx (fun u a o' nx' => (u = .normal ∨ u = .ret) ∧ wO (m4 E.P a ⟨o', nx'⟩ fn.results.toList) (fun vs => Post (ad3 vs) o' nx'))) : ∃ v H', OkR E.P f args ⟨o, nx⟩ v H' ∧ Post v H'.o H'.nx := by
 obtain ⟨v, H', h1, h2⟩ := Q6 hb h
 exact ⟨v, H', K4 hX hR.1 hR.2 hm hf hl h1, h2⟩
end Go.Proofs.YtpmjpogcaglphaaDoor.A
namespace Go.Proofs.YtpmjpogcaglphaaDoor.A
open Go
section
variable (E : Env) (cr : q8) (k : Nat) (nz : Nat → Option (List (Nat × Nat)))
end
section
variable {E : Env} {cr : q8} {k : Nat} {nz : Nat → Option (List (Nat × Nat))}
end
end Go.Proofs.YtpmjpogcaglphaaDoor.A
