/- Machines of one way out of machines of many: rows of steps by where they begin; what Subsets keeps in memory. -/
import Derived.Test.YtpmjpogcaglphaaDoorMLMLaws14
import Derived.Test.YtpmjpogcaglphaaDoorMLMLaws18
set_option linter.unusedVariables false
set_option linter.unusedSimpArgs false
set_option linter.unnecessarySimpa false
namespace Go.Proofs.YtpmjpogcaglphaaDoor.A
open Go
set_option maxRecDepth 20000
abbrev St3 := Int × Int × Int
def M3 (rows : List (List St3)) (x : St3) : List (List St3) := rows.set x.1.toNat (rows.getD x.1.toNat [] ++ [x])
def t6 (N : Nat) (ss : List St3) : List (List St3) := ss.foldl M3 (List.replicate N [])
theorem aI4 (N ss x) : t6 N (ss ++ [x]) = M3 (t6 N ss) x := by simp [t6]
theorem ap8 (l : List St3) (rows : List (List St3)) : (l.foldl M3 rows).length = rows.length := by
 induction l generalizing rows with
 | nil => rfl
 | cons f l ih => rw [List.foldl_cons, ih]; simp [M3]
theorem O2 (N ss) : (t6 N ss).length = N := by rw [t6, ap8]; simp
theorem ai0 {N : Nat} {j : Nat} (hj : j < N) (x : St3) : ∀ (l : List St3) (rows : List (List St3)), rows.length = N → (∀ p ∈ l, 0 ≤ p.1 ∧ p.1 < (N : Int)) → (x ∈ (l.foldl M3 rows).getD j [] ↔ x ∈ rows.getD j [] ∨ x ∈ l ∧ x.1 = (j : Int))
 | [], rows, _, _ => by simp
 | f :: l, rows, hr, hin => by
  have hf := hin f (List.mem_cons_self ..)
  rw [List.foldl_cons, ai0 hj x l (M3 rows f) (by simp [M3, hr]) (fun p hp => hin p (List.mem_cons_of_mem _ hp))]
  unfold M3
  rw [B7 _ _ _ _ _ (by omega)]
  by_cases e : f.1.toNat = j
  ·rw [if_pos e, List.mem_append, List.mem_singleton, e]
   constructor
   ·rintro ((h | rfl) | h)
    ·exact .inl h
    ·exact .inr ⟨List.mem_cons_self .., by omega⟩
    ·exact .inr ⟨List.mem_cons_of_mem _ h.1, h.2⟩
   ·rintro (h | ⟨h, h2⟩)
    ·exact .inl (.inl h)
    ·rcases List.mem_cons.1 h with rfl | h
     ·exact .inl (.inr rfl)
     ·exact .inr ⟨h, h2⟩
  ·rw [if_neg e]
   constructor
   ·rintro (h | h)
    ·exact .inl h
    ·exact .inr ⟨List.mem_cons_of_mem _ h.1, h.2⟩
   ·rintro (h | ⟨h, h2⟩)
    ·exact .inl h
    ·rcases List.mem_cons.1 h with rfl | h
     ·omega
     ·exact .inr ⟨h, h2⟩
theorem ap9 {N : Nat} {ss : List St3} (hin : ∀ p ∈ ss, 0 ≤ p.1 ∧ p.1 < (N : Int)) {j : Nat} (hj : j < N) (x : St3) : x ∈ (t6 N ss).getD j [] ↔ x ∈ ss ∧ x.1 = (j : Int) := by
 rw [t6, ai0 hj x ss _ (by simp) hin]
 simp [List.getD, List.getElem?_replicate, hj]
theorem aP3 (l : List St3) : ∀ (rows : List (List St3)) (n : Nat), (∀ j, (rows.getD j []).length ≤ n) → ∀ j, ((l.foldl M3 rows).getD j []).length ≤ n + l.length := by
 induction l with
 | nil => intro rows n h j; simpa using h j
 | cons f l ih =>
  intro rows n h j
  have := ih (M3 rows f) (n + 1) (fun j => by
   unfold M3
   by_cases hf : f.1.toNat < rows.length
   ·rw [B7 _ _ _ _ _ hf]
    split
    ·have := h f.1.toNat; rw [List.length_append, List.length_singleton]; omega
    ·have := h j; omega
   ·rw [List.set_eq_of_length_le (by omega)]; have := h j; omega) j
  simp only [List.foldl_cons, List.length_cons]; omega
theorem af6 (N ss j) : ((t6 N ss).getD j []).length ≤ ss.length := by
 have := aP3 ss (List.replicate N []) 0 (fun j => by simp [List.getD, List.getElem?_replicate]; split <;> simp) j
 simpa [t6] using this
def ai9 (m : Int) (l : List St3) : List Int := (l.filter fun x => Q8 x.2.2 m).map (·.2.1)
def byL (lr : List (List St3)) (m : Int) (l : List Int) : List Int := l.flatMap fun s => ai9 m (lr.getD s.toNat [])
theorem bs2 (m l x) : ai9 m (l ++ [x]) = ai9 m l ++ (if Q8 x.2.2 m then [x.2.1] else []) := by
 unfold ai9
 rw [List.filter_append]
 by_cases h : Q8 x.2.2 m = true <;> simp [h]
theorem bs3 (m l) : (ai9 m l).length ≤ l.length := by
 unfold ai9
 rw [List.length_map]
 exact List.length_filter_le ..
theorem bF5 (lr m l s) : byL lr m (l ++ [s]) = byL lr m l ++ ai9 m (lr.getD s.toNat []) := by simp [byL]
theorem cq2 {lr : List (List St3)} {M : Nat} (h : ∀ j, (lr.getD j []).length ≤ M) (m l) : (byL lr m l).length ≤ l.length * M := by
 induction l with
 | nil => simp [byL]
 | cons s l ih =>
  have h1 := bs3 m (lr.getD s.toNat [])
  have h2 := h s.toNat
  have : byL lr m (s :: l) = ai9 m (lr.getD s.toNat []) ++ byL lr m l := rfl
  rw [this, List.length_append, List.length_cons, Nat.succ_mul]
  omega
theorem bV7 {N : Nat} {ss : List St3} (hin : ∀ p ∈ ss, 0 ≤ p.1 ∧ p.1 < (N : Int)) {b : List Bool} (hb : b.length = N) {m : Int} (hm : 0 ≤ m ∧ m < 5) (s : Int) : s ∈ byL (t6 N ss) m (B4 b) ↔ s ∈ ah7 ss b m := by
 unfold byL ai9 ah7
 simp only [List.mem_flatMap, List.mem_map, List.mem_filter]
 have e0 : ∀ x : St3, leads b m x = (b.getD x.1.toNat false && Q8 x.2.2 m) := fun x => by
  unfold leads
  rw [decide_eq_true hm.1, decide_eq_true hm.2]
  rfl
 constructor
 ·rintro ⟨q, hq, x, ⟨hx, hh⟩, rfl⟩
  obtain ⟨j, rfl, hj⟩ := ab3.1 hq
  have hjN : j < N := by
   have := af0 hq
   omega
  rw [show ((j : Int)).toNat = j by omega, ap9 hin hjN] at hx
  refine ⟨x, ⟨hx.1, ?_⟩, rfl⟩
  rw [e0, hh, hx.2, show ((j : Int)).toNat = j by omega, hj]
  rfl
 ·rintro ⟨x, ⟨hx, hl⟩, rfl⟩
  rw [e0, Bool.and_eq_true] at hl
  have hx1 := hin x hx
  refine ⟨x.1, ab3.2 ⟨x.1.toNat, by omega, hl.1⟩, x, ⟨?_, hl.2⟩, rfl⟩
  exact (ap9 hin (j := x.1.toNat) (by omega) x).2 ⟨hx, by omega⟩
theorem bs4 {N : Nat} {rows : List (List Int)} {ss : List St3} (hin : ∀ p ∈ ss, 0 ≤ p.1 ∧ p.1 < (N : Int)) {b : List Bool} (hb : b.length = N) {m : Int} (hm : 0 ≤ m ∧ m < 5) : B8 N rows (byL (t6 N ss) m (B4 b)) = az2 N rows ss b m :=
 aG5 fun s _ => bV7 hin hb hm s
def NS (D : Nat) (o : Ob) (nx : Nat) (cs : List AV) (rows : List (List St3)) : Prop :=
 cs.length = rows.length ∧ (∀ j, j < rows.length → HS 145 3 D o nx (cs.getD j .nil) (rows.getD j []).length (cS (rows.getD j []))) ∧
  ∀ j j' i g n g' n', j < j' → cs.getD j .nil = .ref (i, D) g 0 n → cs.getD j' .nil ≠ .ref (i, D) g' 0 n'
theorem NS.keep {D o nx cs rows} (h : NS D o nx cs rows) {o' : Ob} {nx' : Nat} (ho : ∀ i, i < nx → o' (i, D) = o (i, D)) (hn : nx ≤ nx') : NS D o' nx' cs rows :=
 ⟨h.1, fun j hj => (h.2.1 j hj).keep ho hn, h.2.2⟩
theorem NS.start (D o nx) (n : Nat) : NS D o nx (List.replicate n .nil) (List.replicate n []) := by
 refine ⟨by simp, fun j hj => ?_, fun j j' i g m g' m' hj h => ?_⟩
 ·have hj : j < n := by simpa using hj
  have e1 : (List.replicate n AV.nil).getD j .nil = .nil := by simp [List.getD, List.getElem?_replicate, hj]
  have e2 : (List.replicate n ([] : List St3)).getD j [] = [] := by simp [List.getD, List.getElem?_replicate, hj]
  rw [e1, e2]
  exact .inl ⟨rfl, rfl, rfl⟩
 ·by_cases hj : j < n
  ·have e1 : (List.replicate n AV.nil).getD j .nil = .nil := by simp [List.getD, List.getElem?_replicate, hj]
   rw [e1] at h; cases h
  ·have e1 : (List.replicate n AV.nil).getD j .nil = .nil := by simp [List.getD, List.getElem?_replicate, hj]
   rw [e1] at h; cases h
theorem NS.set {D o nx cs rows} (h : NS D o nx cs rows) {j : Nat} (hj : j < rows.length) {o' : Ob} {nx' : Nat} {i : Nat} {g : Tag} {l : List St3} {n : Nat} (hl : n = l.length) (hn : nx ≤ nx') (hi : i < nx')
  (hnew : cs.getD j .nil = .nil ∧ nx ≤ i ∨ ∃ g0 n0, cs.getD j .nil = .ref (i, D) g0 0 n0) (ho : ∀ i', i' < nx → i' ≠ i → o' (i', D) = o (i', D)) (hrow : o' (i, D) = some (.row ⟨145, 3, g, false, true, cS l⟩)) :
  NS D o' nx' (cs.set j (.ref (i, D) g 0 n)) (rows.set j l) := by
 subst hl
 obtain ⟨h1, h2, h3⟩ := h
 have hjc : j < cs.length := by omega
 have apart : ∀ j', j' ≠ j → ∀ g' n', cs.getD j' .nil = .ref (i, D) g' 0 n' → j' < rows.length → False := fun j' hne g' n' he hlt => by
  rcases hnew with ⟨_, hi'⟩ | ⟨g0, n0, he0⟩
  ·rcases h2 j' hlt with ⟨e, _⟩ | ⟨i1, g1, e, hi1, _⟩
   ·rw [e] at he; cases he
   ·rw [e] at he; injection he with he; injection he with he; omega
  ·rcases Nat.lt_or_gt_of_ne hne with hlt' | hlt'
   ·exact h3 j' j i g' n' g0 n0 hlt' he he0
   ·exact h3 j j' i g0 n0 g' n' hlt' he0 he
 have out : ∀ j', ¬ j' < rows.length → cs.getD j' .nil = .nil := fun j' hj' => by
  simp [List.getD, List.getElem?_eq_none (show cs.length ≤ j' by omega)]
 refine ⟨by simpa using h1, fun j' hj' => ?_, fun j1 j2 i1 g1 n1 g2 n2 hlt e1 e2 => ?_⟩
 ·have hj'' : j' < rows.length := by simpa using hj'
  rw [B7 _ _ _ _ _ hjc, B7 _ _ _ _ _ hj]
  by_cases e : j = j'
  ·rw [if_pos e, if_pos e]
   exact .inr ⟨i, g, rfl, hi, hrow, by simp [ao0]⟩
  ·rw [if_neg e, if_neg e]
   rcases h2 j' hj'' with hh | ⟨i1, g1, e1, hi1, e3, e4⟩
   ·exact .inl hh
   ·refine .inr ⟨i1, g1, e1, by omega, ?_, e4⟩
    rw [ho i1 hi1 (fun hc => by subst hc; exact apart j' (fun hc => e hc.symm) _ _ e1 hj''), e3]
 ·rw [B7 _ _ _ _ _ hjc] at e1 e2
  have bound : ∀ j', (∃ i g n, cs.getD j' .nil = .ref i g 0 n) → j' < rows.length := fun j' ⟨i, g, n, he⟩ => by
   by_cases hb : j' < rows.length
   ·exact hb
   ·rw [out j' hb] at he; cases he
  by_cases c1 : j = j1
  ·rw [if_pos c1] at e1
   rw [if_neg (by omega)] at e2
   injection e1 with e1; injection e1 with e1
   subst e1
   exact apart j2 (by omega) _ _ e2 (bound j2 ⟨_, _, _, e2⟩)
  ·rw [if_neg c1] at e1
   by_cases c2 : j = j2
   ·rw [if_pos c2] at e2
    injection e2 with e2; injection e2 with e2
    subst e2
    exact apart j1 (by omega) _ _ e1 (bound j1 ⟨_, _, _, e1⟩)
   ·rw [if_neg c2] at e2
    exact h3 j1 j2 i1 g1 n1 g2 n2 hlt e1 e2
theorem aq0 {α : Type} (l : List α) (x d : α) (j : Nat) : (l ++ [x]).getD j d = if j < l.length then l.getD j d else if j = l.length then x else d := by
 simp only [List.getD, List.getElem?_append]
 by_cases h : j < l.length
 ·simp [h]
 ·by_cases h2 : j = l.length
  ·simp [h2]
  ·have : j - l.length ≠ 0 := by omega
   simp [h, h2, this]
theorem NI.snoc {D o nx cs rows} (h : NI D o nx cs rows) {o' : Ob} {nx' : Nat} {i : Nat} {g : Tag} {l : List Int} {n : Nat} (hl : n = l.length) (hn : nx ≤ nx') (h1 : nx ≤ i) (h2 : i < nx') (ho : ∀ i', i' < nx → o' (i', D) = o (i', D)) (hrow : o' (i, D) = some (.row ⟨3, 1, g, false, true, cI l⟩)) :
  NI D o' nx' (cs ++ [.ref (i, D) g 0 n]) (rows ++ [l]) := by
 subst hl
 obtain ⟨hc, hr, hd⟩ := h
 have lt : ∀ {j i1 g1 n1}, cs.getD j .nil = .ref (i1, D) g1 0 n1 → j < cs.length → i1 < nx := fun {j i1 g1 n1} he hj => by
  rcases hr j (by omega) with ⟨e, _⟩ | ⟨i2, g2, e, hi2, _⟩
  ·rw [e] at he; cases he
  ·rw [e] at he; injection he with he; injection he with he; omega
 refine ⟨by simp [hc], fun j hj => ?_, fun j j' i1 g1 n1 g2 n2 hlt e1 e2 => ?_⟩
 ·rw [aq0, aq0, hc]
  by_cases hj1 : j < rows.length
  ·rw [if_pos hj1, if_pos hj1]
   exact (hr j hj1).keep ho hn
  ·have hj2 : j = rows.length := by simp at hj; omega
   rw [if_neg hj1, if_neg hj1, if_pos hj2, if_pos hj2]
   exact .inr ⟨i, g, rfl, h2, hrow, by simp [cI]⟩
 ·rw [aq0] at e1 e2
  by_cases a1 : j < cs.length
  ·rw [if_pos a1] at e1
   by_cases a2 : j' < cs.length
   ·rw [if_pos a2] at e2
    exact hd j j' i1 g1 n1 g2 n2 hlt e1 e2
   ·rw [if_neg a2] at e2
    have := lt e1 a1
    by_cases a3 : j' = cs.length
    ·rw [if_pos a3] at e2
     injection e2 with e2; injection e2 with e2
     omega
    ·rw [if_neg a3] at e2; cases e2
  ·rw [if_neg (by omega), if_neg (by omega)] at e2
   cases e2
end Go.Proofs.YtpmjpogcaglphaaDoor.A
