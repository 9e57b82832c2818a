/- Machines of one way out of machines of many: rows of steps by where they begin; what Subsets keeps in memory. -/
import Derived.Shelf.Strconv.Itoa3
import Derived.Test.YtbapebepmbikhaaDoorTie
import Derived.Test.YtbapebepmbikhaaDoorCards
import Derived.Test.YtbapebepmbikhaaDoorMLDCaps1
import Derived.Test.YtbapebepmbikhaaDoorMLDCaps2
import Derived.Test.YtbapebepmbikhaaDoorMLDCaps3
import Derived.Test.YtbapebepmbikhaaDoorMLDCaps4
import Derived.Test.YtbapebepmbikhaaDoorMLDCaps5
import Derived.Test.YtbapebepmbikhaaDoorMLDCaps6
import Derived.Test.YtbapebepmbikhaaDoorMLDCaps7
import Derived.Test.YtbapebepmbikhaaDoorMLDCaps8
set_option linter.unusedVariables false
set_option linter.unusedSimpArgs false
set_option linter.unnecessarySimpa false
namespace Go.Proofs.YtbapebepmbikhaaDoor.A
open Go
set_option maxRecDepth 20000
abbrev St3 := Int × Int × Int
def leadAdd (rows : List (List St3)) (x : St3) : List (List St3) := rows.set x.1.toNat (rows.getD x.1.toNat [] ++ [x])
def leadsOf (N : Nat) (ss : List St3) : List (List St3) := ss.foldl leadAdd (List.replicate N [])
theorem leadsOf_snoc (N ss x) : leadsOf N (ss ++ [x]) = leadAdd (leadsOf N ss) x := by simp [leadsOf]
theorem leadFold_length (l : List St3) (rows : List (List St3)) : (l.foldl leadAdd rows).length = rows.length := by
  induction l generalizing rows with
  | nil => rfl
  | cons f l ih => rw [List.foldl_cons, ih]; simp [leadAdd]
theorem leadsOf_length (N ss) : (leadsOf N ss).length = N := by rw [leadsOf, leadFold_length]; simp
theorem leadFold_mem {N : Nat} {j : Nat} (hj : j < N) (x : St3) : ∀ (l : List St3) (rows : List (List St3)), rows.length = N → (∀ p ∈ l, 0 ≤ p.1 ∧ p.1 < (N : Int)) → (x ∈ (l.foldl leadAdd rows).getD j [] ↔ x ∈ rows.getD j [] ∨ x ∈ l ∧ x.1 = (j : Int))
  | [], rows, _, _ => by simp
  | f :: l, rows, hr, hin => by
    have hf := hin f (List.mem_cons_self ..)
    rw [List.foldl_cons, leadFold_mem hj x l (leadAdd rows f) (by simp [leadAdd, hr]) (fun p hp => hin p (List.mem_cons_of_mem _ hp))]
    unfold leadAdd
    rw [getD_set _ _ _ _ _ (by omega)]
    by_cases e : f.1.toNat = j
    · rw [if_pos e, List.mem_append, List.mem_singleton, e]
      constructor
      · rintro ((h | rfl) | h)
        · exact .inl h
        · exact .inr ⟨List.mem_cons_self .., by omega⟩
        · exact .inr ⟨List.mem_cons_of_mem _ h.1, h.2⟩
      · rintro (h | ⟨h, h2⟩)
        · exact .inl (.inl h)
        · rcases List.mem_cons.1 h with rfl | h
          · exact .inl (.inr rfl)
          · exact .inr ⟨h, h2⟩
    · rw [if_neg e]
      constructor
      · rintro (h | h)
        · exact .inl h
        · exact .inr ⟨List.mem_cons_of_mem _ h.1, h.2⟩
      · rintro (h | ⟨h, h2⟩)
        · exact .inl h
        · rcases List.mem_cons.1 h with rfl | h
          · omega
          · exact .inr ⟨h, h2⟩
theorem leadsOf_mem {N : Nat} {ss : List St3} (hin : ∀ p ∈ ss, 0 ≤ p.1 ∧ p.1 < (N : Int)) {j : Nat} (hj : j < N) (x : St3) : x ∈ (leadsOf N ss).getD j [] ↔ x ∈ ss ∧ x.1 = (j : Int) := by
  rw [leadsOf, leadFold_mem hj x ss _ (by simp) hin]
  simp [List.getD, List.getElem?_replicate, hj]
theorem leadFold_le (l : List St3) : ∀ (rows : List (List St3)) (n : Nat), (∀ j, (rows.getD j []).length ≤ n) → ∀ j, ((l.foldl leadAdd rows).getD j []).length ≤ n + l.length := by
  induction l with
  | nil => intro rows n h j; simpa using h j
  | cons f l ih =>
    intro rows n h j
    have := ih (leadAdd rows f) (n + 1) (fun j => by
      unfold leadAdd
      by_cases hf : f.1.toNat < rows.length
      · rw [getD_set _ _ _ _ _ hf]
        split
        · have := h f.1.toNat; rw [List.length_append, List.length_singleton]; omega
        · have := h j; omega
      · rw [List.set_eq_of_length_le (by omega)]; have := h j; omega) j
    simp only [List.foldl_cons, List.length_cons]; omega
theorem leadsOf_le (N ss j) : ((leadsOf N ss).getD j []).length ≤ ss.length := by
  have := leadFold_le ss (List.replicate N []) 0 (fun j => by simp [List.getD, List.getElem?_replicate]; split <;> simp) j
  simpa [leadsOf] using this
/-- Where a mode leads, set by set. -/
def hits (m : Int) (l : List St3) : List Int := (l.filter fun x => hasMode x.2.2 m).map (·.2.1)
def byL (lr : List (List St3)) (m : Int) (l : List Int) : List Int := l.flatMap fun s => hits m (lr.getD s.toNat [])
theorem hits_snoc (m l x) : hits m (l ++ [x]) = hits m l ++ (if hasMode x.2.2 m then [x.2.1] else []) := by
  unfold hits
  rw [List.filter_append]
  by_cases h : hasMode x.2.2 m = true <;> simp [h]
theorem hits_le (m l) : (hits m l).length ≤ l.length := by
  unfold hits
  rw [List.length_map]
  exact List.length_filter_le ..
theorem byL_snoc (lr m l s) : byL lr m (l ++ [s]) = byL lr m l ++ hits m (lr.getD s.toNat []) := by simp [byL]
theorem byL_le {lr : List (List St3)} {M : Nat} (h : ∀ j, (lr.getD j []).length ≤ M) (m l) : (byL lr m l).length ≤ l.length * M := by
  induction l with
  | nil => simp [byL]
  | cons s l ih =>
    have h1 := hits_le m (lr.getD s.toNat [])
    have h2 := h s.toNat
    have : byL lr m (s :: l) = hits m (lr.getD s.toNat []) ++ byL lr m l := rfl
    rw [this, List.length_append, List.length_cons, Nat.succ_mul]
    omega
theorem byL_mem {N : Nat} {ss : List St3} (hin : ∀ p ∈ ss, 0 ≤ p.1 ∧ p.1 < (N : Int)) {b : List Bool} (hb : b.length = N) {m : Int} (hm : 0 ≤ m ∧ m < 5) (s : Int) : s ∈ byL (leadsOf N ss) m (idxs b) ↔ s ∈ nextOf ss b m := by
  unfold byL hits nextOf
  simp only [List.mem_flatMap, List.mem_map, List.mem_filter]
  have e0 : ∀ x : St3, leads b m x = (b.getD x.1.toNat false && hasMode x.2.2 m) := fun x => by
    unfold leads
    rw [decide_eq_true hm.1, decide_eq_true hm.2]
    rfl
  constructor
  · rintro ⟨q, hq, x, ⟨hx, hh⟩, rfl⟩
    obtain ⟨j, rfl, hj⟩ := mem_idxs.1 hq
    have hjN : j < N := by
      have := idxs_in hq
      omega
    rw [show ((j : Int)).toNat = j by omega, leadsOf_mem hin hjN] at hx
    refine ⟨x, ⟨hx.1, ?_⟩, rfl⟩
    rw [e0, hh, hx.2, show ((j : Int)).toNat = j by omega, hj]
    rfl
  · rintro ⟨x, ⟨hx, hl⟩, rfl⟩
    rw [e0, Bool.and_eq_true] at hl
    have hx1 := hin x hx
    refine ⟨x.1, mem_idxs.2 ⟨x.1.toNat, by omega, hl.1⟩, x, ⟨?_, hl.2⟩, rfl⟩
    exact (leadsOf_mem hin (j := x.1.toNat) (by omega) x).2 ⟨hx, by omega⟩
theorem byL_close {N : Nat} {rows : List (List Int)} {ss : List St3} (hin : ∀ p ∈ ss, 0 ≤ p.1 ∧ p.1 < (N : Int)) {b : List Bool} (hb : b.length = N) {m : Int} (hm : 0 ≤ m ∧ m < 5) : closeB N rows (byL (leadsOf N ss) m (idxs b)) = stepB N rows ss b m :=
  closeB_congr fun s _ => byL_mem hin hb hm s
/-! ### rows of steps, each of its own make -/
def NS (D : Nat) (o : Ob) (nx : Nat) (cs : List AV) (rows : List (List St3)) : Prop :=
  cs.length = rows.length ∧ (∀ j, j < rows.length → HS 70 3 D o nx (cs.getD j .nil) (rows.getD j []).length (cS (rows.getD j []))) ∧
    ∀ j j' i g n g' n', j < j' → cs.getD j .nil = .ref (i, D) g 0 n → cs.getD j' .nil ≠ .ref (i, D) g' 0 n'
theorem NS.keep {D o nx cs rows} (h : NS D o nx cs rows) {o' : Ob} {nx' : Nat} (ho : ∀ i, i < nx → o' (i, D) = o (i, D)) (hn : nx ≤ nx') : NS D o' nx' cs rows :=
  ⟨h.1, fun j hj => (h.2.1 j hj).keep ho hn, h.2.2⟩
theorem NS.start (D o nx) (n : Nat) : NS D o nx (List.replicate n .nil) (List.replicate n []) := by
  refine ⟨by simp, fun j hj => ?_, fun j j' i g m g' m' hj h => ?_⟩
  · have hj : j < n := by simpa using hj
    have e1 : (List.replicate n AV.nil).getD j .nil = .nil := by simp [List.getD, List.getElem?_replicate, hj]
    have e2 : (List.replicate n ([] : List St3)).getD j [] = [] := by simp [List.getD, List.getElem?_replicate, hj]
    rw [e1, e2]
    exact .inl ⟨rfl, rfl, rfl⟩
  · by_cases hj : j < n
    · have e1 : (List.replicate n AV.nil).getD j .nil = .nil := by simp [List.getD, List.getElem?_replicate, hj]
      rw [e1] at h; cases h
    · have e1 : (List.replicate n AV.nil).getD j .nil = .nil := by simp [List.getD, List.getElem?_replicate, hj]
      rw [e1] at h; cases h
theorem NS.set {D o nx cs rows} (h : NS D o nx cs rows) {j : Nat} (hj : j < rows.length) {o' : Ob} {nx' : Nat} {i : Nat} {g : Tag} {l : List St3} {n : Nat} (hl : n = l.length) (hn : nx ≤ nx') (hi : i < nx')
    (hnew : cs.getD j .nil = .nil ∧ nx ≤ i ∨ ∃ g0 n0, cs.getD j .nil = .ref (i, D) g0 0 n0) (ho : ∀ i', i' < nx → i' ≠ i → o' (i', D) = o (i', D)) (hrow : o' (i, D) = some (.row ⟨70, 3, g, false, true, cS l⟩)) :
    NS D o' nx' (cs.set j (.ref (i, D) g 0 n)) (rows.set j l) := by
  subst hl
  obtain ⟨h1, h2, h3⟩ := h
  have hjc : j < cs.length := by omega
  have apart : ∀ j', j' ≠ j → ∀ g' n', cs.getD j' .nil = .ref (i, D) g' 0 n' → j' < rows.length → False := fun j' hne g' n' he hlt => by
    rcases hnew with ⟨_, hi'⟩ | ⟨g0, n0, he0⟩
    · rcases h2 j' hlt with ⟨e, _⟩ | ⟨i1, g1, e, hi1, _⟩
      · rw [e] at he; cases he
      · rw [e] at he; injection he with he; injection he with he; omega
    · rcases Nat.lt_or_gt_of_ne hne with hlt' | hlt'
      · exact h3 j' j i g' n' g0 n0 hlt' he he0
      · exact h3 j j' i g0 n0 g' n' hlt' he0 he
  have out : ∀ j', ¬ j' < rows.length → cs.getD j' .nil = .nil := fun j' hj' => by
    simp [List.getD, List.getElem?_eq_none (show cs.length ≤ j' by omega)]
  refine ⟨by simpa using h1, fun j' hj' => ?_, fun j1 j2 i1 g1 n1 g2 n2 hlt e1 e2 => ?_⟩
  · have hj'' : j' < rows.length := by simpa using hj'
    rw [getD_set _ _ _ _ _ hjc, getD_set _ _ _ _ _ hj]
    by_cases e : j = j'
    · rw [if_pos e, if_pos e]
      exact .inr ⟨i, g, rfl, hi, hrow, by simp [cS_length]⟩
    · rw [if_neg e, if_neg e]
      rcases h2 j' hj'' with hh | ⟨i1, g1, e1, hi1, e3, e4⟩
      · exact .inl hh
      · refine .inr ⟨i1, g1, e1, by omega, ?_, e4⟩
        rw [ho i1 hi1 (fun hc => by subst hc; exact apart j' (fun hc => e hc.symm) _ _ e1 hj''), e3]
  · rw [getD_set _ _ _ _ _ hjc] at e1 e2
    have bound : ∀ j', (∃ i g n, cs.getD j' .nil = .ref i g 0 n) → j' < rows.length := fun j' ⟨i, g, n, he⟩ => by
      by_cases hb : j' < rows.length
      · exact hb
      · rw [out j' hb] at he; cases he
    by_cases c1 : j = j1
    · rw [if_pos c1] at e1
      rw [if_neg (by omega)] at e2
      injection e1 with e1; injection e1 with e1
      subst e1
      exact apart j2 (by omega) _ _ e2 (bound j2 ⟨_, _, _, e2⟩)
    · rw [if_neg c1] at e1
      by_cases c2 : j = j2
      · rw [if_pos c2] at e2
        injection e2 with e2; injection e2 with e2
        subst e2
        exact apart j1 (by omega) _ _ e1 (bound j1 ⟨_, _, _, e1⟩)
      · rw [if_neg c2] at e2
        exact h3 j1 j2 i1 g1 n1 g2 n2 hlt e1 e2
theorem getD_snoc {α : Type} (l : List α) (x d : α) (j : Nat) : (l ++ [x]).getD j d = if j < l.length then l.getD j d else if j = l.length then x else d := by
  simp only [List.getD, List.getElem?_append]
  by_cases h : j < l.length
  · simp [h]
  · by_cases h2 : j = l.length
    · simp [h2]
    · have : j - l.length ≠ 0 := by omega
      simp [h, h2, this]
/-- One more row, a new one. -/
theorem NI.snoc {D o nx cs rows} (h : NI D o nx cs rows) {o' : Ob} {nx' : Nat} {i : Nat} {g : Tag} {l : List Int} {n : Nat} (hl : n = l.length) (hn : nx ≤ nx') (h1 : nx ≤ i) (h2 : i < nx') (ho : ∀ i', i' < nx → o' (i', D) = o (i', D)) (hrow : o' (i, D) = some (.row ⟨3, 1, g, false, true, cI l⟩)) :
    NI D o' nx' (cs ++ [.ref (i, D) g 0 n]) (rows ++ [l]) := by
  subst hl
  obtain ⟨hc, hr, hd⟩ := h
  have lt : ∀ {j i1 g1 n1}, cs.getD j .nil = .ref (i1, D) g1 0 n1 → j < cs.length → i1 < nx := fun {j i1 g1 n1} he hj => by
    rcases hr j (by omega) with ⟨e, _⟩ | ⟨i2, g2, e, hi2, _⟩
    · rw [e] at he; cases he
    · rw [e] at he; injection he with he; injection he with he; omega
  refine ⟨by simp [hc], fun j hj => ?_, fun j j' i1 g1 n1 g2 n2 hlt e1 e2 => ?_⟩
  · rw [getD_snoc, getD_snoc, hc]
    by_cases hj1 : j < rows.length
    · rw [if_pos hj1, if_pos hj1]
      exact (hr j hj1).keep ho hn
    · have hj2 : j = rows.length := by simp at hj; omega
      rw [if_neg hj1, if_neg hj1, if_pos hj2, if_pos hj2]
      exact .inr ⟨i, g, rfl, h2, hrow, by simp [cI]⟩
  · rw [getD_snoc] at e1 e2
    by_cases a1 : j < cs.length
    · rw [if_pos a1] at e1
      by_cases a2 : j' < cs.length
      · rw [if_pos a2] at e2
        exact hd j j' i1 g1 n1 g2 n2 hlt e1 e2
      · rw [if_neg a2] at e2
        have := lt e1 a1
        by_cases a3 : j' = cs.length
        · rw [if_pos a3] at e2
          injection e2 with e2; injection e2 with e2
          omega
        · rw [if_neg a3] at e2; cases e2
    · rw [if_neg (by omega), if_neg (by omega)] at e2
      cases e2
end Go.Proofs.YtbapebepmbikhaaDoor.A
/- strconv.Itoa: a number's digits, by the kit's shelf. -/
namespace Go.Proofs.YtbapebepmbikhaaDoor.A
open Go
noncomputable def renIt : Shelf.Ren := ⟨fun x => if x = 171 then 60 else if x = 243 then 63 else if x = 246 then 64 else if x = 283 then 65 else if x = 284 then 66 else if x = 285 then 67 else if x = 286 then 68 else if x = 129 then 70 else if x = 317 then 69 else if x = 318 then 71 else if x = 319 then 72 else if x = 320 then 73 else if x = 337 then 74 else if x = 338 then 75 else x, fun x => if x = 3 then 3 else if x = 9 then 9 else if x = 2 then 2 else if x = 4 then 4 else if x = 171 then 113 else if x = 0 then 0 else if x = 53 then 114 else if x = 37 then 117 else if x = 5 then 5 else if x = 173 then 118 else if x = 212 then 122 else if x = 51 then 123 else if x = 20 then 20 else if x = 213 then 124 else if x = 46 then 64 else if x = 232 then 127 else if x = 233 then 128 else x, fun x => if x = 17 then 0 else if x = 18 then 1 else if x = 19 then 2 else x⟩
theorem laysIt : LaysM.n171 Tryd.prog renIt where
  mixed := mixed
  f129 := Tryd.func70.trans (congrArg some (by kernel_rfl))
  f171 := Tryd.func60.trans (congrArg some (by kernel_rfl))
  f243 := Tryd.func63.trans (congrArg some (by kernel_rfl))
  f246 := Tryd.func64.trans (congrArg some (by kernel_rfl))
  f283 := Tryd.func65.trans (congrArg some (by kernel_rfl))
  f284 := Tryd.func66.trans (congrArg some (by kernel_rfl))
  f285 := Tryd.func67.trans (congrArg some (by kernel_rfl))
  f286 := Tryd.func68.trans (congrArg some (by kernel_rfl))
  f317 := Tryd.func69.trans (congrArg some (by kernel_rfl))
  f318 := Tryd.func71.trans (congrArg some (by kernel_rfl))
  f319 := Tryd.func72.trans (congrArg some (by kernel_rfl))
  f320 := Tryd.func73.trans (congrArg some (by kernel_rfl))
  f337 := Tryd.func74.trans (congrArg some (by kernel_rfl))
  f338 := Tryd.func75.trans (congrArg some (by kernel_rfl))
  t0 := Tryd.underlying0
  a0 := Tryd.isAgg0
  z0 := Tryd.sizeOf0
  v0 := Tryd.zeroValue0
  t2 := Tryd.underlying2
  a2 := Tryd.isAgg2
  z2 := Tryd.sizeOf2
  v2 := Tryd.zeroValue2
  t3 := Tryd.underlying3
  a3 := Tryd.isAgg3
  z3 := Tryd.sizeOf3
  v3 := Tryd.zeroValue3
  t4 := Tryd.underlying4
  a4 := Tryd.isAgg4
  z4 := Tryd.sizeOf4
  v4 := Tryd.zeroValue4
  t5 := Tryd.underlying5
  a5 := Tryd.isAgg5
  z5 := Tryd.sizeOf5
  v5 := Tryd.zeroValue5
  t9 := Tryd.underlying9
  a9 := Tryd.isAgg9
  z9 := Tryd.sizeOf9
  v9 := Tryd.zeroValue9
  t20 := Tryd.underlying20
  a20 := Tryd.isAgg20
  z20 := Tryd.sizeOf20
  v20 := Tryd.zeroValue20
  t37 := Tryd.underlying117
  a37 := Tryd.isAgg117
  z37 := Tryd.sizeOf117
  v37 := Tryd.zeroValue117
  t46 := Tryd.underlying64
  a46 := Tryd.isAgg64
  z46 := Tryd.sizeOf64
  v46 := Tryd.zeroValue64
  t51 := Tryd.underlying123
  a51 := Tryd.isAgg123
  z51 := Tryd.sizeOf123
  v51 := Tryd.zeroValue123
  t53 := Tryd.underlying114
  a53 := Tryd.isAgg114
  z53 := Tryd.sizeOf114
  v53 := Tryd.zeroValue114
  t171 := Tryd.underlying113
  a171 := Tryd.isAgg113
  z171 := Tryd.sizeOf113
  v171 := Tryd.zeroValue113
  t173 := Tryd.underlying118
  a173 := Tryd.isAgg118
  z173 := Tryd.sizeOf118
  v173 := Tryd.zeroValue118
  t212 := Tryd.underlying122
  a212 := Tryd.isAgg122
  z212 := Tryd.sizeOf122
  v212 := Tryd.zeroValue122
  t213 := Tryd.underlying124
  a213 := Tryd.isAgg124
  z213 := Tryd.sizeOf124
  t232 := Tryd.underlying127
  a232 := Tryd.isAgg127
  z232 := Tryd.sizeOf127
  v232 := Tryd.zeroValue127
  t233 := Tryd.underlying128
  a233 := Tryd.isAgg128
  z233 := Tryd.sizeOf128
  v233 := Tryd.zeroValue128
  g17 := by kernel_rfl
  g18 := by kernel_rfl
  g19 := by kernel_rfl
  i0 := by kernel_rfl
  i2 := by kernel_rfl
  i3 := by kernel_rfl
  i4 := by kernel_rfl
  i5 := by kernel_rfl
  i9 := by kernel_rfl
  i20 := by kernel_rfl
  i37 := by kernel_rfl
  i46 := by kernel_rfl
  i51 := by kernel_rfl
  i53 := by kernel_rfl
  i171 := by kernel_rfl
  i173 := by kernel_rfl
  i212 := by kernel_rfl
  i232 := by kernel_rfl
  i233 := by kernel_rfl
  m17 := by kernel_rfl
  m18 := by kernel_rfl
  m19 := by kernel_rfl
theorem gl_tab {S : Nat → Prop} {w : World} (h : Gl S w) : Lib.TabIs Tryd.prog w "internal/strconv.uint64pow10" .u64 Lib.pow10Tab := by
  obtain ⟨_, t, m, hh⟩ := h _ (List.mem_singleton.2 rfl)
  unfold Lib.TabIs World.var?
  rw [show Tryd.prog.globalNamed "internal/strconv.uint64pow10" = some 0 by kernel_rfl]
  simp only [Option.bind_some]
  rw [hh]
def RItoa (args : List AV) (r : AV) : Prop := ∃ n : Int, -9223372036854775808 ≤ n ∧ n ≤ 9223372036854775807 ∧ args = [.int .i64 n] ∧ r = .str (Lib.itoa n)
theorem RItoa_fn : Fun1 RItoa := by
  rintro args r r' ⟨n, _, _, rfl, rfl⟩ ⟨n', _, _, h, rfl⟩
  simp only [List.cons.injEq, AV.int.injEq, true_and, and_true] at h
  rw [h]
theorem RItoa_ok (args r) (h : RItoa args r) : Ok Tryd.prog 60 args r := by
  obtain ⟨n, h0, h1, rfl, rfl⟩ := h
  refine ⟨⟨Tryd.f60, Tryd.func60, by kernel_rfl, by kernel_rfl⟩, fun S w cargs ha hS hG => ?_⟩
  obtain ⟨hl, hr⟩ := ha
  match cargs, hl with
  | [u], _ =>
    have h2 := hr 0 _ _ rfl rfl
    cases h2
    refine (Any.strconv_Itoa laysIt n h0 h1 w (gl_tab hG)).mono ?_
    rintro e w' ⟨rfl, k, os, rfl⟩
    have hb : RowKit.Below w.heap.size w (Sort.grow (w.drewN k) os) := by
      have hd : (w.drewN k).heap = w.heap ∧ (w.drewN k).os = w.os ∧ (w.drewN k).tape = w.tape ∧ (w.drewN k).output = w.output := by
        cases k <;> exact ⟨rfl, rfl, rfl, rfl⟩
      refine ⟨hd.2.1, hd.2.2.1, hd.2.2.2, by rw [Sort.size_grow, hd.1]; omega, fun i hi => ?_⟩
      rw [Sort.heap_grow_old _ _ (by rw [hd.1]; exact hi), hd.1]
    refine ⟨_, S, rfl, hb, .str _, fun _ h => h, fun b hb' => ⟨.inl hb', ?_⟩⟩
    have h5 := hS b hb'
    have h6 := hb.size
    omega
end Go.Proofs.YtbapebepmbikhaaDoor.A
/- Machines of one way out of machines of many: a number's digits, a set's name. -/
namespace Go.Proofs.YtbapebepmbikhaaDoor.A
open Go
set_option maxRecDepth 20000
theorem dec_lt10 {n : Nat} (h : n < 10) : Lib.decDigits n = [UInt8.ofNat (48 + n)] := by rw [Lib.decDigits, dif_pos h]
theorem dec_ge10 {n : Nat} (h : ¬ n < 10) : Lib.decDigits n = Lib.decDigits (n / 10) ++ [UInt8.ofNat (48 + n % 10)] := by rw [Lib.decDigits, dif_neg h]
theorem itoaS_dec {n : Nat} (h : n < 1000) : Lib.decDigits n = itoaS n := by
  unfold itoaS
  by_cases h1 : n < 10
  · rw [if_pos h1, dec_lt10 h1]
  · rw [if_neg h1, dec_ge10 h1]
    by_cases h2 : n < 100
    · rw [if_pos h2, dec_lt10 (by omega)]
      rfl
    · rw [if_neg h2, dec_ge10 (n := n / 10) (by omega), dec_lt10 (by omega), Nat.div_div_eq_div_mul]
      rfl
noncomputable def XIt : FuncId → List AV → Option AV := tabLook [(60, tRel RItoa)]
theorem XIt_ok : CPSound Tryd.prog XIt := tab_cons (tab_nil _) (tRel_ok RItoa_ok)
theorem XIt_eq {x : Int} (h : 0 ≤ x ∧ x < 1000) : XIt 60 [.int .i64 x] = some (.str (itoaS x.toNat)) := by
  obtain ⟨n, rfl⟩ := Int.eq_ofNat_of_zero_le h.1
  have e : Lib.itoa (n : Int) = itoaS n := by
    unfold Lib.itoa
    rw [if_neg (by omega), show ((n : Int)).toNat = n by omega]
    exact itoaS_dec (by omega)
  rw [show ((n : Int)).toNat = n by omega, ← e]
  exact tRel_eq (R := RItoa) RItoa_fn ⟨(n : Int), by omega, by omega, rfl, rfl⟩
theorem itoaS_le (n : Nat) : (itoaS n).length ≤ 3 := by
  unfold itoaS
  split
  · simp
  · split <;> simp
theorem nameS_le (l : List Int) : (nameS l).length ≤ 4 * l.length := by
  induction l with
  | nil => simp [nameS]
  | cons x l ih =>
    have h1 := itoaS_le x.toNat
    have : nameS (x :: l) = itoaS x.toNat ++ [32] ++ nameS l := rfl
    rw [this]
    simp only [List.length_append, List.length_cons, List.length_nil]
    omega
theorem lookNm (X) : lookedAt (EX md0 X) (fun _ => none) 1 Tryd.f47 = true := by kernel_rfl
theorem name_ok (l : List Int) (hl : l.length ≤ 1000) (hin : ∀ x ∈ l, 0 ≤ x ∧ x < 1000) : Ok Tryd.prog 47 [slI l] (.str (nameS l)) := by
  refine ok_of_WP (E := EX md0 XIt) (cr := noR) XIt_ok (noR_ok _) mixed (k := l.length + 1) Tryd.func47 (lookNm _) rfl ?_
  simp only [Tryd.f47, Option.getD_some]
  simp (disch := omega) only [go_sem, ↓IntWalk.iteOmega, IntWalk.toNatUp, Nat.reduceEqDiff, Nat.reduceAdd, Nat.reduceMul, Nat.reduceSub, Nat.reduceLT, Nat.reduceLeDiff, Int.reduceToNat, Int.reduceLT, Int.reduceLE, Int.reduceEq, Int.reduceAdd, Int.reduceSub, Int.reduceMul, Int.toNat_natCast, reduceCtorEq, decide_true, decide_false, IntWalk.i64_in, IntWalk.u64_in, IntWalk.u8_in]
  refine WP_loop (fun m a o nx => ∃ i, i ≤ l.length ∧ m = l.length - i ∧ a 3 = .str (nameS (l.take i)) ∧ a 6 = slI l ∧ a 7 = .int .i64 l.length ∧ a 8 = .int .i64 i) l.length (by omega) ⟨0, by omega, by omega, by simp (disch := omega) only [go_sem, ↓IntWalk.iteOmega, IntWalk.toNatUp, Nat.reduceEqDiff, Nat.reduceAdd, Nat.reduceMul, Nat.reduceSub, Nat.reduceLT, Nat.reduceLeDiff, Int.reduceToNat, Int.reduceLT, Int.reduceLE, Int.reduceEq, Int.reduceAdd, Int.reduceSub, Int.reduceMul, Int.toNat_natCast, reduceCtorEq, decide_true, decide_false, IntWalk.i64_in, IntWalk.u64_in, IntWalk.u8_in]; rfl, by simp (disch := omega) only [go_sem, ↓IntWalk.iteOmega, IntWalk.toNatUp, Nat.reduceEqDiff, Nat.reduceAdd, Nat.reduceMul, Nat.reduceSub, Nat.reduceLT, Nat.reduceLeDiff, Int.reduceToNat, Int.reduceLT, Int.reduceLE, Int.reduceEq, Int.reduceAdd, Int.reduceSub, Int.reduceMul, Int.toNat_natCast, reduceCtorEq, decide_true, decide_false, IntWalk.i64_in, IntWalk.u64_in, IntWalk.u8_in], by simp (disch := omega) only [go_sem, ↓IntWalk.iteOmega, IntWalk.toNatUp, Nat.reduceEqDiff, Nat.reduceAdd, Nat.reduceMul, Nat.reduceSub, Nat.reduceLT, Nat.reduceLeDiff, Int.reduceToNat, Int.reduceLT, Int.reduceLE, Int.reduceEq, Int.reduceAdd, Int.reduceSub, Int.reduceMul, Int.toNat_natCast, reduceCtorEq, decide_true, decide_false, IntWalk.i64_in, IntWalk.u64_in, IntWalk.u8_in], by simp (disch := omega) only [go_sem, ↓IntWalk.iteOmega, IntWalk.toNatUp, Nat.reduceEqDiff, Nat.reduceAdd, Nat.reduceMul, Nat.reduceSub, Nat.reduceLT, Nat.reduceLeDiff, Int.reduceToNat, Int.reduceLT, Int.reduceLE, Int.reduceEq, Int.reduceAdd, Int.reduceSub, Int.reduceMul, Int.toNat_natCast, reduceCtorEq, decide_true, decide_false, IntWalk.i64_in, IntWalk.u64_in, IntWalk.u8_in]⟩ ?_
  rintro m a o nx ⟨i, hi, rfl, h3, h6, h7, h8⟩
  by_cases hlt : i < l.length
  · have hat := cI_get (s := 1) hlt
    have hmem := hin _ (getD_mem hlt 0)
    have htk := take_succ_getD hlt 0
    have hle := nameS_le (l.take i)
    rw [List.length_take] at hle
    generalize l.getD i 0 = x at hat hmem htk
    have hit := XIt_eq hmem
    have h3le := itoaS_le x.toNat
    simp (disch := omega) only [go_sem, ↓IntWalk.iteOmega, IntWalk.toNatUp, Nat.reduceEqDiff, Nat.reduceAdd, Nat.reduceMul, Nat.reduceSub, Nat.reduceLT, Nat.reduceLeDiff, Int.reduceToNat, Int.reduceLT, Int.reduceLE, Int.reduceEq, Int.reduceAdd, Int.reduceSub, Int.reduceMul, Int.toNat_natCast, reduceCtorEq, decide_true, decide_false, IntWalk.i64_in, IntWalk.u64_in, IntWalk.u8_in, h3, h6, h7, h8, hat, hit]
    exact ⟨_, by omega, i + 1, by omega, rfl, by rw [htk, nameS_snoc, List.append_assoc], rfl⟩
  · have e : i = l.length := by omega
    subst e
    rw [List.take_length] at h3
    simp (disch := omega) only [go_sem, ↓IntWalk.iteOmega, IntWalk.toNatUp, Nat.reduceEqDiff, Nat.reduceAdd, Nat.reduceMul, Nat.reduceSub, Nat.reduceLT, Nat.reduceLeDiff, Int.reduceToNat, Int.reduceLT, Int.reduceLE, Int.reduceEq, Int.reduceAdd, Int.reduceSub, Int.reduceMul, Int.toNat_natCast, reduceCtorEq, decide_true, decide_false, IntWalk.i64_in, IntWalk.u64_in, IntWalk.u8_in, h3, h6, h7, h8]
def RNm (args : List AV) (r : AV) : Prop := ∃ l : List Int, l.length ≤ 1000 ∧ (∀ x ∈ l, 0 ≤ x ∧ x < 1000) ∧ args = [slI l] ∧ r = .str (nameS l)
theorem RNm_fn : Fun1 RNm := by
  rintro args r r' ⟨l, _, _, rfl, rfl⟩ ⟨l', _, _, h, rfl⟩
  simp only [List.cons.injEq, and_true] at h
  rw [slI_inj h]
theorem RNm_ok (args r) (h : RNm args r) : Ok Tryd.prog 47 args r := by
  obtain ⟨l, h1, h2, rfl, rfl⟩ := h
  exact name_ok l h1 h2
end Go.Proofs.YtbapebepmbikhaaDoor.A
/- Machines of one way out of machines of many: the number of a set. -/
namespace Go.Proofs.YtbapebepmbikhaaDoor.A
open Go
set_option maxRecDepth 20000
abbrev subP : AV := .ptr (1, 20) (1, 20) 0
structure SubRow (o : Ob) (nx : Nat) (N : Nat) (S F : Int) (ss : List St3) (fs : List (Int × Int)) (lr : List (List St3)) (L : List (List Bool)) (lcs : List AV) (vS : AV) (scs : List AV) : Prop where
  two : 2 ≤ nx
  row : o (1, 20) = some (.row ⟨75, 1, (1, 20), false, true, [.int .i64 N, .int .i64 S, .int .i64 F, .sl ss.length (cS ss), .sl fs.length (cP fs), .ref (1, 17) (1, 17) 0 N, .mp (1, 18), vS]⟩)
  leads : o (1, 17) = some (.row ⟨39, 1, (1, 17), false, true, lcs⟩)
  rows : NS 44 o nx lcs lr
  ll : lr.length = N
  known : o (1, 18) = some (.map (knownS L))
  hs : HS 26 1 45 o nx vS L.length scs
  ni : NI 34 o nx scs (L.map idxs)
  ne : ∀ x ∈ scs, x ≠ .nil
def SubAt (o : Ob) (nx : Nat) (N : Nat) (S F : Int) (ss : List St3) (fs : List (Int × Int)) (lr : List (List St3)) (L : List (List Bool)) : Prop := ∃ lcs vS scs, SubRow o nx N S F ss fs lr L lcs vS scs
/-- What a call of met, of by leaves. -/
def SKeep (nx : Nat) (o o' : Ob) : Prop := ∀ i k, i < nx → k ≠ 20 → k ≠ 18 → k ≠ 45 → k ≠ 40 → o' (i, k) = o (i, k)
def BKeep40 (nx : Nat) (o o' : Ob) : Prop := ∀ i k, i < nx → k ≠ 40 → o' (i, k) = o (i, k)
theorem SubAt.keep {o nx N S F ss fs lr L} (h : SubAt o nx N S F ss fs lr L) {o' : Ob} {nx' : Nat} (hk : BKeep40 nx o o') (hn : nx ≤ nx') : SubAt o' nx' N S F ss fs lr L := by
  obtain ⟨lcs, vS, scs, h⟩ := h
  have h2 := h.two
  exact ⟨lcs, vS, scs, ⟨by omega, by rw [hk _ _ (by omega) (by decide)]; exact h.row, by rw [hk _ _ (by omega) (by decide)]; exact h.leads, h.rows.keep (fun i hi => hk i _ hi (by decide)) hn, h.ll, by rw [hk _ _ (by omega) (by decide)]; exact h.known, h.hs.keep (fun i hi => hk i _ hi (by decide)) hn, h.ni.keep (fun i hi => hk i _ hi (by decide)) hn, h.ne⟩⟩
noncomputable def XNm : FuncId → List AV → Option AV := tabLook [(47, tRel RNm)]
theorem XNm_ok : CPSound Tryd.prog XNm := tab_cons (tab_nil _) (tRel_ok RNm_ok)
theorem XNm_eq {l : List Int} (h1 : l.length ≤ 1000) (h2 : ∀ x ∈ l, 0 ≤ x ∧ x < 1000) : XNm 47 [slI l] = some (.str (nameS l)) := tRel_eq (R := RNm) RNm_fn ⟨l, h1, h2, rfl, rfl⟩
theorem lookMet (X) : lookedAt (EX md0 X) (fun _ => none) 2 Tryd.f35 = true := by kernel_rfl
theorem met_wp {cr : CallR} {k : Nat} {o : Ob} {nx : Nat} {N : Nat} {S F : Int} {ss fs lr} {L : List (List Bool)} (hN : N ≤ 1000) (h : SubAt o nx N S F ss fs lr L) (hL : ∀ b ∈ L, b.length = N) (hLn : L.length ≤ 100000) {t : List Bool} (ht : t.length = N) :
    WP (EX md0 XNm) cr k (fun _ => none) (Tryd.f35.body.getD .skip) (begin_ [subP, slI (idxs t)]) o nx (fun u a o' nx' => u = .ret ∧ a 4 = .int .i64 (L.idxOf t : Int) ∧ nx ≤ nx' ∧ SubAt o' nx' N S F ss fs lr (metS L t) ∧ SKeep nx o o') := by
  obtain ⟨lcs, vS, scs, h⟩ := h
  have h2 := h.two
  have hrow := h.row
  have hkn := h.known
  have hld := h.leads
  have hidx := idxs_le t
  have hnm := XNm_eq (l := idxs t) (by omega) (fun x hx => by have := idxs_in hx; omega)
  have hf := findA_known (by omega) ht (n := 0) hL
  rw [Nat.zero_add] at hf
  unfold nm at hf
  have hz : (cI (List.replicate (idxs t).length 0)).drop (idxs t).length = [] := by simp [cI]
  simp only [Tryd.f35, Option.getD_some]
  by_cases hm : t ∈ L
  · rw [if_pos hm] at hf
    simp (disch := omega) only [go_sem, ↓IntWalk.iteOmega, IntWalk.toNatUp, Nat.reduceEqDiff, Nat.reduceAdd, Nat.reduceMul, Nat.reduceSub, Nat.reduceLT, Nat.reduceLeDiff, Int.reduceToNat, Int.reduceLT, Int.reduceLE, Int.reduceEq, Int.reduceAdd, Int.reduceSub, Int.reduceMul, Int.toNat_natCast, reduceCtorEq, decide_true, decide_false, IntWalk.i64_in, IntWalk.u64_in, IntWalk.u8_in, hrow, hkn, hnm, hf]
    rw [metS_in L t hm]
    exact ⟨by omega, SubAt.keep ⟨lcs, vS, scs, h⟩ (fun _ _ _ _ => rfl) (by omega), fun _ _ _ _ _ _ _ => rfl⟩
  · rw [if_neg hm] at hf
    have hput := putA_known (by omega) ht hL hm
    unfold nm at hput
    have hup : ∀ (o : Ob) (nx : Nat), updM (1, 18) (.str (nameS (idxs t))) (.int .i64 (L.length : Int)) o nx (knownS L) = some ⟨upd o (1, 18) (.map (knownS (metS L t))), nx⟩ := fun o nx => by rw [updM_eq hf, hput]
    have hml : (metS L t).length = L.length + 1 := by rw [metS_out L t hm]; simp
    have hmi : (metS L t).map idxs = L.map idxs ++ [idxs t] := by rw [metS_out L t hm]; simp
    rw [List.idxOf_eq_length hm]
    rcases h.hs with ⟨rfl, e2, rfl⟩ | ⟨i1, g1, rfl, hi1, hrow1, hlen1⟩
    · have e4 : (L.length : Int) = 0 := by omega
      rw [e4] at hup ⊢
      simp (disch := omega) only [go_sem, ↓IntWalk.iteOmega, IntWalk.toNatUp, Nat.reduceEqDiff, Nat.reduceAdd, Nat.reduceMul, Nat.reduceSub, Nat.reduceLT, Nat.reduceLeDiff, Int.reduceToNat, Int.reduceLT, Int.reduceLE, Int.reduceEq, Int.reduceAdd, Int.reduceSub, Int.reduceMul, Int.toNat_natCast, reduceCtorEq, decide_true, decide_false, IntWalk.i64_in, IntWalk.u64_in, IntWalk.u8_in, hrow, hkn, hnm, hf, hup, hz, rep_int]
      refine ⟨by first | (congr 1; done) | (congr 1; omega), by omega, ⟨lcs, _, [] ++ [.ref (nx + 1 + 1 + 1 + 1 + 1, 34) (nx + 1 + 1 + 1 + 1 + 1, 34) 0 (idxs t).length], ⟨by omega, upd_same _ _ _, by simp (disch := omega) only [go_sem, ↓IntWalk.iteOmega, IntWalk.toNatUp, Nat.reduceEqDiff, Nat.reduceAdd, Nat.reduceMul, Nat.reduceSub, Nat.reduceLT, Nat.reduceLeDiff, Int.reduceToNat, Int.reduceLT, Int.reduceLE, Int.reduceEq, Int.reduceAdd, Int.reduceSub, Int.reduceMul, Int.toNat_natCast, reduceCtorEq, decide_true, decide_false, IntWalk.i64_in, IntWalk.u64_in, IntWalk.u8_in, hld], h.rows.keep (fun i hi => by simp (disch := omega) only [go_sem, ↓IntWalk.iteOmega, IntWalk.toNatUp, Nat.reduceEqDiff, Nat.reduceAdd, Nat.reduceMul, Nat.reduceSub, Nat.reduceLT, Nat.reduceLeDiff, Int.reduceToNat, Int.reduceLT, Int.reduceLE, Int.reduceEq, Int.reduceAdd, Int.reduceSub, Int.reduceMul, Int.toNat_natCast, reduceCtorEq, decide_true, decide_false, IntWalk.i64_in, IntWalk.u64_in, IntWalk.u8_in]) (by omega), h.ll, by simp (disch := omega) only [go_sem, ↓IntWalk.iteOmega, IntWalk.toNatUp, Nat.reduceEqDiff, Nat.reduceAdd, Nat.reduceMul, Nat.reduceSub, Nat.reduceLT, Nat.reduceLeDiff, Int.reduceToNat, Int.reduceLT, Int.reduceLE, Int.reduceEq, Int.reduceAdd, Int.reduceSub, Int.reduceMul, Int.toNat_natCast, reduceCtorEq, decide_true, decide_false, IntWalk.i64_in, IntWalk.u64_in, IntWalk.u8_in], ?_, ?_, ?_⟩⟩, ?_⟩
      · rw [hml]
        exact .inr ⟨nx + 1 + 1 + 1 + 1 + 1 + 1 + 1, (nx + 1 + 1 + 1 + 1 + 1 + 1 + 1, 45), by rw [e2], by omega, by simp (disch := omega) only [go_sem, ↓IntWalk.iteOmega, IntWalk.toNatUp, Nat.reduceEqDiff, Nat.reduceAdd, Nat.reduceMul, Nat.reduceSub, Nat.reduceLT, Nat.reduceLeDiff, Int.reduceToNat, Int.reduceLT, Int.reduceLE, Int.reduceEq, Int.reduceAdd, Int.reduceSub, Int.reduceMul, Int.toNat_natCast, reduceCtorEq, decide_true, decide_false, IntWalk.i64_in, IntWalk.u64_in, IntWalk.u8_in], by simp [e2]⟩
      · rw [hmi]
        exact NI.snoc h.ni rfl (by omega) (by omega) (by omega) (fun i hi => by simp (disch := omega) only [go_sem, ↓IntWalk.iteOmega, IntWalk.toNatUp, Nat.reduceEqDiff, Nat.reduceAdd, Nat.reduceMul, Nat.reduceSub, Nat.reduceLT, Nat.reduceLeDiff, Int.reduceToNat, Int.reduceLT, Int.reduceLE, Int.reduceEq, Int.reduceAdd, Int.reduceSub, Int.reduceMul, Int.toNat_natCast, reduceCtorEq, decide_true, decide_false, IntWalk.i64_in, IntWalk.u64_in, IntWalk.u8_in]) (by simp (disch := omega) only [go_sem, ↓IntWalk.iteOmega, IntWalk.toNatUp, Nat.reduceEqDiff, Nat.reduceAdd, Nat.reduceMul, Nat.reduceSub, Nat.reduceLT, Nat.reduceLeDiff, Int.reduceToNat, Int.reduceLT, Int.reduceLE, Int.reduceEq, Int.reduceAdd, Int.reduceSub, Int.reduceMul, Int.toNat_natCast, reduceCtorEq, decide_true, decide_false, IntWalk.i64_in, IntWalk.u64_in, IntWalk.u8_in])
      · intro x hx
        rcases List.mem_append.1 hx with hx | hx
        · exact h.ne x hx
        · rw [List.mem_singleton.1 hx]
          exact fun hc => by cases hc
      · intro i k hi a1 a2 a3 a4
        have e1 : ¬ i = nx + 1 + 1 + 1 + 1 + 1 := by omega
        have e2 : ¬ i = nx + 1 + 1 + 1 + 1 + 1 + 1 + 1 := by omega
        simp [upd_app, a1, a2, a3, a4, e1, e2]
    · simp (disch := omega) only [go_sem, ↓IntWalk.iteOmega, IntWalk.toNatUp, Nat.reduceEqDiff, Nat.reduceAdd, Nat.reduceMul, Nat.reduceSub, Nat.reduceLT, Nat.reduceLeDiff, Int.reduceToNat, Int.reduceLT, Int.reduceLE, Int.reduceEq, Int.reduceAdd, Int.reduceSub, Int.reduceMul, Int.toNat_natCast, reduceCtorEq, decide_true, decide_false, IntWalk.i64_in, IntWalk.u64_in, IntWalk.u8_in, hrow, hkn, hnm, hf, hup, hz, hrow1, rep_int]
      have htk : scs.take L.length = scs := take_len (by omega)
      refine ⟨by first | (congr 1; done) | (congr 1; omega), by omega, ⟨lcs, _, scs ++ [.ref (nx + 1 + 1 + 1 + 1 + 1, 34) (nx + 1 + 1 + 1 + 1 + 1, 34) 0 (idxs t).length], ⟨by omega, upd_same _ _ _, by simp (disch := omega) only [go_sem, ↓IntWalk.iteOmega, IntWalk.toNatUp, Nat.reduceEqDiff, Nat.reduceAdd, Nat.reduceMul, Nat.reduceSub, Nat.reduceLT, Nat.reduceLeDiff, Int.reduceToNat, Int.reduceLT, Int.reduceLE, Int.reduceEq, Int.reduceAdd, Int.reduceSub, Int.reduceMul, Int.toNat_natCast, reduceCtorEq, decide_true, decide_false, IntWalk.i64_in, IntWalk.u64_in, IntWalk.u8_in, hld], h.rows.keep (fun i hi => by simp (disch := omega) only [go_sem, ↓IntWalk.iteOmega, IntWalk.toNatUp, Nat.reduceEqDiff, Nat.reduceAdd, Nat.reduceMul, Nat.reduceSub, Nat.reduceLT, Nat.reduceLeDiff, Int.reduceToNat, Int.reduceLT, Int.reduceLE, Int.reduceEq, Int.reduceAdd, Int.reduceSub, Int.reduceMul, Int.toNat_natCast, reduceCtorEq, decide_true, decide_false, IntWalk.i64_in, IntWalk.u64_in, IntWalk.u8_in]) (by omega), h.ll, by simp (disch := omega) only [go_sem, ↓IntWalk.iteOmega, IntWalk.toNatUp, Nat.reduceEqDiff, Nat.reduceAdd, Nat.reduceMul, Nat.reduceSub, Nat.reduceLT, Nat.reduceLeDiff, Int.reduceToNat, Int.reduceLT, Int.reduceLE, Int.reduceEq, Int.reduceAdd, Int.reduceSub, Int.reduceMul, Int.toNat_natCast, reduceCtorEq, decide_true, decide_false, IntWalk.i64_in, IntWalk.u64_in, IntWalk.u8_in], ?_, ?_, ?_⟩⟩, ?_⟩
      · rw [hml]
        exact .inr ⟨i1, (nx + 1 + 1 + 1 + 1 + 1 + 1 + 1, 45), rfl, by omega, by simp (disch := omega) only [go_sem, ↓IntWalk.iteOmega, IntWalk.toNatUp, Nat.reduceEqDiff, Nat.reduceAdd, Nat.reduceMul, Nat.reduceSub, Nat.reduceLT, Nat.reduceLeDiff, Int.reduceToNat, Int.reduceLT, Int.reduceLE, Int.reduceEq, Int.reduceAdd, Int.reduceSub, Int.reduceMul, Int.toNat_natCast, reduceCtorEq, decide_true, decide_false, IntWalk.i64_in, IntWalk.u64_in, IntWalk.u8_in]; rw [htk], by simp [hlen1]⟩
      · rw [hmi]
        exact NI.snoc h.ni rfl (by omega) (by omega) (by omega) (fun i hi => by simp (disch := omega) only [go_sem, ↓IntWalk.iteOmega, IntWalk.toNatUp, Nat.reduceEqDiff, Nat.reduceAdd, Nat.reduceMul, Nat.reduceSub, Nat.reduceLT, Nat.reduceLeDiff, Int.reduceToNat, Int.reduceLT, Int.reduceLE, Int.reduceEq, Int.reduceAdd, Int.reduceSub, Int.reduceMul, Int.toNat_natCast, reduceCtorEq, decide_true, decide_false, IntWalk.i64_in, IntWalk.u64_in, IntWalk.u8_in]) (by simp (disch := omega) only [go_sem, ↓IntWalk.iteOmega, IntWalk.toNatUp, Nat.reduceEqDiff, Nat.reduceAdd, Nat.reduceMul, Nat.reduceSub, Nat.reduceLT, Nat.reduceLeDiff, Int.reduceToNat, Int.reduceLT, Int.reduceLE, Int.reduceEq, Int.reduceAdd, Int.reduceSub, Int.reduceMul, Int.toNat_natCast, reduceCtorEq, decide_true, decide_false, IntWalk.i64_in, IntWalk.u64_in, IntWalk.u8_in])
      · intro x hx
        rcases List.mem_append.1 hx with hx | hx
        · exact h.ne x hx
        · rw [List.mem_singleton.1 hx]
          exact fun hc => by cases hc
      · intro i k hi a1 a2 a3 a4
        have e1 : ¬ i = nx + 1 + 1 + 1 + 1 + 1 := by omega
        have e2 : ¬ i = nx + 1 + 1 + 1 + 1 + 1 + 1 + 1 := by omega
        simp [upd_app, a1, a2, a3, a4, e1, e2]
end Go.Proofs.YtbapebepmbikhaaDoor.A
/- Machines of one way out of machines of many: where a mode leads a set. -/
namespace Go.Proofs.YtbapebepmbikhaaDoor.A
open Go
set_option maxRecDepth 20000
theorem BKeep40.refl (n o) : BKeep40 n o o := fun _ _ _ _ => rfl
theorem BKeep40.upd {n : Nat} {o0 o : Ob} {j d : Nat} {x : AObj} (h : BKeep40 n o0 o) (hj : n ≤ j ∨ d = 40) : BKeep40 n o0 (A.upd o (j, d) x) := fun i k hi hk => by
  have e : ¬ (i, k) = (j, d) := fun hc => by
    injection hc with h1 h2
    omega
  rw [A.upd, if_neg e]
  exact h i k hi hk
theorem BKeep40.seal {n : Nat} {o0 o : Ob} {ts : List Tag} (h : BKeep40 n o0 o) (ht : ∀ t ∈ ts, t.2 = 40) : BKeep40 n o0 (sealed ts o) := fun i k hi hk => by
  rw [sealed_out (fun hm => hk (ht _ hm))]
  exact h i k hi hk
def RClo (args : List AV) (r : AV) : Prop := ∃ (N : Nat) (S F : Int) (ss : List (Int × Int × Int)) (fs : List (Int × Int)) (l : List Int), Wf N S F ss fs ∧ l.length ≤ 9000000 ∧ args = [nfaV N S F ss fs, slI l] ∧ r = slI (idxs (closeB N (rowsOf N fs) l))
theorem RClo_fn : Fun1 RClo := by
  rintro args r r' ⟨N, S, F, ss, fs, w, _, _, rfl, rfl⟩ ⟨N', S', F', ss', fs', w', _, _, h, rfl⟩
  simp only [List.cons.injEq, and_true] at h
  obtain ⟨h1, h2, h3, h4, h5⟩ := nfaV_inj h.1
  have h1 : N = N' := by omega
  rw [h1, h5, slI_inj h.2]
theorem RClo_ok (args r) (h : RClo args r) : Ok Tryd.prog 36 args r := by obtain ⟨N, S, F, ss, fs, w, h1, h2, rfl, rfl⟩ := h; exact nfaClose_ok N h1.n S F ss fs h1.lf (fun p hp => (h1.free p hp).1) w h2
noncomputable def XClo : FuncId → List AV → Option AV := tabLook [(36, tRel RClo)]
theorem XClo_ok : CPSound Tryd.prog XClo := tab_cons (tab_nil _) (tRel_ok RClo_ok)
theorem XClo_eq {N : Nat} {S F : Int} {ss fs} (hw : Wf N S F ss fs) (l : List Int) (h : l.length ≤ 9000000) : XClo 36 [nfaV N S F ss fs, slI l] = some (slI (idxs (closeB N (rowsOf N fs) l))) := tRel_eq (R := RClo) RClo_fn ⟨_, _, _, _, _, _, hw, h, rfl, rfl⟩
theorem lookBy (X) : lookedAt (EX md0 X) (fun _ => none) 3 Tryd.f37 = true := by kernel_rfl
theorem by_wp {cr : CallR} {k : Nat} {o0 : Ob} {nx0 : Nat} {N : Nat} {S F : Int} {ss fs} {L : List (List Bool)} (hN : N ≤ 1000) (hw : Wf N S F ss fs) (hss : ss.length ≤ 1000) (h : SubAt o0 nx0 N S F ss fs (leadsOf N ss) L) {b : List Bool} (hb : b.length = N) {q : Nat} {g : Tag} (hq : q < nx0) (hrow : o0 (q, 34) = some (.row ⟨3, 1, g, false, true, cI (idxs b)⟩)) {m : Int} (hm : 0 ≤ m ∧ m < 5) (hk : 1000 < k) :
    WP (EX md0 XClo) cr k (fun _ => none) (Tryd.f37.body.getD .skip) (begin_ [subP, .ref (q, 34) g 0 (idxs b).length, .int .i64 m]) o0 nx0 (fun u a o' nx' => u = .ret ∧ a 6 = slI (idxs (stepB N (rowsOf N fs) ss b m)) ∧ nx0 ≤ nx' ∧ BKeep40 nx0 o0 o') := by
  obtain ⟨lcs, vS, scs, h⟩ := h
  have h2 := h.two
  have hcl : lcs.length = N := by rw [h.rows.1, h.ll]
  have hidx := idxs_le b
  have hbyle : ∀ l : List Int, (byL (leadsOf N ss) m l).length ≤ l.length * 1000 := fun l => byL_le (fun j => by have := leadsOf_le N ss j; omega) m l
  simp only [Tryd.f37, Option.getD_some]
  simp (disch := omega) only [go_sem, ↓IntWalk.iteOmega, IntWalk.toNatUp, Nat.reduceEqDiff, Nat.reduceAdd, Nat.reduceMul, Nat.reduceSub, Nat.reduceLT, Nat.reduceLeDiff, Int.reduceToNat, Int.reduceLT, Int.reduceLE, Int.reduceEq, Int.reduceAdd, Int.reduceSub, Int.reduceMul, Int.toNat_natCast, reduceCtorEq, decide_true, decide_false, IntWalk.i64_in, IntWalk.u64_in, IntWalk.u8_in]
  refine WP_loop (fun mm a o nx => ∃ i v, i ≤ (idxs b).length ∧ mm = (idxs b).length - i ∧ nx0 ≤ nx ∧ HS 3 1 40 o nx v (byL (leadsOf N ss) m ((idxs b).take i)).length (cI (byL (leadsOf N ss) m ((idxs b).take i))) ∧ BKeep40 nx0 o0 o ∧ a 0 = subP ∧ a 2 = .int .i64 m ∧ a 7 = v ∧ a 12 = .ref (q, 34) g 0 (idxs b).length ∧ a 13 = .int .i64 (idxs b).length ∧ a 14 = .int .i64 i) (idxs b).length (by omega)
    ⟨0, .nil, by omega, by omega, by omega, by rw [List.take_zero]; exact HS.nil, BKeep40.refl _ _, by simp (disch := omega) only [go_sem, ↓IntWalk.iteOmega, IntWalk.toNatUp, Nat.reduceEqDiff, Nat.reduceAdd, Nat.reduceMul, Nat.reduceSub, Nat.reduceLT, Nat.reduceLeDiff, Int.reduceToNat, Int.reduceLT, Int.reduceLE, Int.reduceEq, Int.reduceAdd, Int.reduceSub, Int.reduceMul, Int.toNat_natCast, reduceCtorEq, decide_true, decide_false, IntWalk.i64_in, IntWalk.u64_in, IntWalk.u8_in], by simp (disch := omega) only [go_sem, ↓IntWalk.iteOmega, IntWalk.toNatUp, Nat.reduceEqDiff, Nat.reduceAdd, Nat.reduceMul, Nat.reduceSub, Nat.reduceLT, Nat.reduceLeDiff, Int.reduceToNat, Int.reduceLT, Int.reduceLE, Int.reduceEq, Int.reduceAdd, Int.reduceSub, Int.reduceMul, Int.toNat_natCast, reduceCtorEq, decide_true, decide_false, IntWalk.i64_in, IntWalk.u64_in, IntWalk.u8_in], by simp (disch := omega) only [go_sem, ↓IntWalk.iteOmega, IntWalk.toNatUp, Nat.reduceEqDiff, Nat.reduceAdd, Nat.reduceMul, Nat.reduceSub, Nat.reduceLT, Nat.reduceLeDiff, Int.reduceToNat, Int.reduceLT, Int.reduceLE, Int.reduceEq, Int.reduceAdd, Int.reduceSub, Int.reduceMul, Int.toNat_natCast, reduceCtorEq, decide_true, decide_false, IntWalk.i64_in, IntWalk.u64_in, IntWalk.u8_in], by simp (disch := omega) only [go_sem, ↓IntWalk.iteOmega, IntWalk.toNatUp, Nat.reduceEqDiff, Nat.reduceAdd, Nat.reduceMul, Nat.reduceSub, Nat.reduceLT, Nat.reduceLeDiff, Int.reduceToNat, Int.reduceLT, Int.reduceLE, Int.reduceEq, Int.reduceAdd, Int.reduceSub, Int.reduceMul, Int.toNat_natCast, reduceCtorEq, decide_true, decide_false, IntWalk.i64_in, IntWalk.u64_in, IntWalk.u8_in], by simp (disch := omega) only [go_sem, ↓IntWalk.iteOmega, IntWalk.toNatUp, Nat.reduceEqDiff, Nat.reduceAdd, Nat.reduceMul, Nat.reduceSub, Nat.reduceLT, Nat.reduceLeDiff, Int.reduceToNat, Int.reduceLT, Int.reduceLE, Int.reduceEq, Int.reduceAdd, Int.reduceSub, Int.reduceMul, Int.toNat_natCast, reduceCtorEq, decide_true, decide_false, IntWalk.i64_in, IntWalk.u64_in, IntWalk.u8_in], by simp (disch := omega) only [go_sem, ↓IntWalk.iteOmega, IntWalk.toNatUp, Nat.reduceEqDiff, Nat.reduceAdd, Nat.reduceMul, Nat.reduceSub, Nat.reduceLT, Nat.reduceLeDiff, Int.reduceToNat, Int.reduceLT, Int.reduceLE, Int.reduceEq, Int.reduceAdd, Int.reduceSub, Int.reduceMul, Int.toNat_natCast, reduceCtorEq, decide_true, decide_false, IntWalk.i64_in, IntWalk.u64_in, IntWalk.u8_in]⟩ ?_
  rintro mm a o nx ⟨i, v, hi, rfl, hnx, hHS, hkp, h0, hm2, h7, h12, h13, h14⟩
  have ho34 : o (q, 34) = _ := (hkp q 34 hq (by decide)).trans hrow
  have ho20 : o (1, 20) = _ := (hkp 1 20 (by omega) (by decide)).trans h.row
  have ho17 : o (1, 17) = _ := (hkp 1 17 (by omega) (by decide)).trans h.leads
  by_cases hlt : i < (idxs b).length
  · have hat := cI_get (s := 1) hlt
    have hmem := getD_mem hlt 0
    have htk := take_succ_getD hlt 0
    have hle := hbyle ((idxs b).take i)
    rw [List.length_take] at hle
    generalize (idxs b).getD i 0 = x at hat hmem htk
    have hx := idxs_in hmem
    obtain ⟨s, rfl⟩ := Int.eq_ofNat_of_zero_le hx.1
    have hsN : s < lcs.length := by omega
    have hget := cs_get (s := 1) hsN
    have hH := (h.rows.2.1 s (by rw [h.ll]; omega)).keep (o' := o) (nx' := nx) (fun i hi => hkp i 44 hi (by decide)) hnx
    have hrl := leadsOf_le N ss s
    have hsn : byL (leadsOf N ss) m ((idxs b).take (i + 1)) = byL (leadsOf N ss) m ((idxs b).take i) ++ hits m ((leadsOf N ss).getD s []) := by
      rw [htk, byL_snoc, show ((s : Int)).toNat = s by omega]
    generalize hlr : (leadsOf N ss).getD s [] = row at hH hrl hsn
    generalize hvv : lcs.getD s .nil = w at hH hget
    have hwl : ∀ o : Ob, aLen Tryd.prog o 39 w = some (.int .i64 (row.length : Int)) := by
      intro o
      rcases hH with ⟨rfl, e, _⟩ | ⟨i1, g1, rfl, _, _, _⟩
      · rw [e]; simp (disch := omega) only [go_sem, ↓IntWalk.iteOmega, IntWalk.toNatUp, Nat.reduceEqDiff, Nat.reduceAdd, Nat.reduceMul, Nat.reduceSub, Nat.reduceLT, Nat.reduceLeDiff, Int.reduceToNat, Int.reduceLT, Int.reduceLE, Int.reduceEq, Int.reduceAdd, Int.reduceSub, Int.reduceMul, Int.toNat_natCast, reduceCtorEq, decide_true, decide_false, IntWalk.i64_in, IntWalk.u64_in, IntWalk.u8_in]
      · simp (disch := omega) only [go_sem, ↓IntWalk.iteOmega, IntWalk.toNatUp, Nat.reduceEqDiff, Nat.reduceAdd, Nat.reduceMul, Nat.reduceSub, Nat.reduceLT, Nat.reduceLeDiff, Int.reduceToNat, Int.reduceLT, Int.reduceLE, Int.reduceEq, Int.reduceAdd, Int.reduceSub, Int.reduceMul, Int.toNat_natCast, reduceCtorEq, decide_true, decide_false, IntWalk.i64_in, IntWalk.u64_in, IntWalk.u8_in]
    have hrow1 : 0 < row.length → ∃ i1 g1, w = .ref (i1, 44) g1 0 row.length ∧ i1 < nx ∧ o (i1, 44) = some (.row ⟨70, 3, g1, false, true, cS row⟩) := by
      intro h
      rcases hH with ⟨_, e, _⟩ | ⟨i1, g1, e, hi1, e2, _⟩
      · omega
      · exact ⟨i1, g1, e, hi1, e2⟩
    clear hH hvv hlr htk hmem
    generalize hprev : byL (leadsOf N ss) m ((idxs b).take i) = prev at hHS hsn hle
    simp (disch := omega) only [go_sem, ↓IntWalk.iteOmega, IntWalk.toNatUp, Nat.reduceEqDiff, Nat.reduceAdd, Nat.reduceMul, Nat.reduceSub, Nat.reduceLT, Nat.reduceLeDiff, Int.reduceToNat, Int.reduceLT, Int.reduceLE, Int.reduceEq, Int.reduceAdd, Int.reduceSub, Int.reduceMul, Int.toNat_natCast, reduceCtorEq, decide_true, decide_false, IntWalk.i64_in, IntWalk.u64_in, IntWalk.u8_in, h0, hm2, h7, h12, h13, h14, ho34, ho20, ho17, hat, hget, hwl]
    refine WP_loop (fun mm a o' nx' => ∃ j v, j ≤ row.length ∧ mm = row.length - j ∧ nx ≤ nx' ∧ HS 3 1 40 o' nx' v (prev ++ hits m (row.take j)).length (cI (prev ++ hits m (row.take j))) ∧ BKeep40 nx o o' ∧ a 0 = subP ∧ a 2 = .int .i64 m ∧ a 7 = v ∧ a 12 = .ref (q, 34) g 0 (idxs b).length ∧ a 13 = .int .i64 (idxs b).length ∧ a 14 = .int .i64 i ∧ a 24 = w ∧ a 25 = .int .i64 row.length ∧ a 26 = .int .i64 j) row.length (by omega)
      ⟨0, v, by omega, by omega, by omega, by rw [List.take_zero]; simpa [hits] using hHS.keep (fun _ _ => rfl) (by omega), BKeep40.refl _ _, by simp (disch := omega) only [go_sem, ↓IntWalk.iteOmega, IntWalk.toNatUp, Nat.reduceEqDiff, Nat.reduceAdd, Nat.reduceMul, Nat.reduceSub, Nat.reduceLT, Nat.reduceLeDiff, Int.reduceToNat, Int.reduceLT, Int.reduceLE, Int.reduceEq, Int.reduceAdd, Int.reduceSub, Int.reduceMul, Int.toNat_natCast, reduceCtorEq, decide_true, decide_false, IntWalk.i64_in, IntWalk.u64_in, IntWalk.u8_in, h0], by simp (disch := omega) only [go_sem, ↓IntWalk.iteOmega, IntWalk.toNatUp, Nat.reduceEqDiff, Nat.reduceAdd, Nat.reduceMul, Nat.reduceSub, Nat.reduceLT, Nat.reduceLeDiff, Int.reduceToNat, Int.reduceLT, Int.reduceLE, Int.reduceEq, Int.reduceAdd, Int.reduceSub, Int.reduceMul, Int.toNat_natCast, reduceCtorEq, decide_true, decide_false, IntWalk.i64_in, IntWalk.u64_in, IntWalk.u8_in, hm2], by simp (disch := omega) only [go_sem, ↓IntWalk.iteOmega, IntWalk.toNatUp, Nat.reduceEqDiff, Nat.reduceAdd, Nat.reduceMul, Nat.reduceSub, Nat.reduceLT, Nat.reduceLeDiff, Int.reduceToNat, Int.reduceLT, Int.reduceLE, Int.reduceEq, Int.reduceAdd, Int.reduceSub, Int.reduceMul, Int.toNat_natCast, reduceCtorEq, decide_true, decide_false, IntWalk.i64_in, IntWalk.u64_in, IntWalk.u8_in, h7], by simp (disch := omega) only [go_sem, ↓IntWalk.iteOmega, IntWalk.toNatUp, Nat.reduceEqDiff, Nat.reduceAdd, Nat.reduceMul, Nat.reduceSub, Nat.reduceLT, Nat.reduceLeDiff, Int.reduceToNat, Int.reduceLT, Int.reduceLE, Int.reduceEq, Int.reduceAdd, Int.reduceSub, Int.reduceMul, Int.toNat_natCast, reduceCtorEq, decide_true, decide_false, IntWalk.i64_in, IntWalk.u64_in, IntWalk.u8_in, h12], by simp (disch := omega) only [go_sem, ↓IntWalk.iteOmega, IntWalk.toNatUp, Nat.reduceEqDiff, Nat.reduceAdd, Nat.reduceMul, Nat.reduceSub, Nat.reduceLT, Nat.reduceLeDiff, Int.reduceToNat, Int.reduceLT, Int.reduceLE, Int.reduceEq, Int.reduceAdd, Int.reduceSub, Int.reduceMul, Int.toNat_natCast, reduceCtorEq, decide_true, decide_false, IntWalk.i64_in, IntWalk.u64_in, IntWalk.u8_in, h13], by simp (disch := omega) only [go_sem, ↓IntWalk.iteOmega, IntWalk.toNatUp, Nat.reduceEqDiff, Nat.reduceAdd, Nat.reduceMul, Nat.reduceSub, Nat.reduceLT, Nat.reduceLeDiff, Int.reduceToNat, Int.reduceLT, Int.reduceLE, Int.reduceEq, Int.reduceAdd, Int.reduceSub, Int.reduceMul, Int.toNat_natCast, reduceCtorEq, decide_true, decide_false, IntWalk.i64_in, IntWalk.u64_in, IntWalk.u8_in, h14], by simp (disch := omega) only [go_sem, ↓IntWalk.iteOmega, IntWalk.toNatUp, Nat.reduceEqDiff, Nat.reduceAdd, Nat.reduceMul, Nat.reduceSub, Nat.reduceLT, Nat.reduceLeDiff, Int.reduceToNat, Int.reduceLT, Int.reduceLE, Int.reduceEq, Int.reduceAdd, Int.reduceSub, Int.reduceMul, Int.toNat_natCast, reduceCtorEq, decide_true, decide_false, IntWalk.i64_in, IntWalk.u64_in, IntWalk.u8_in], by simp (disch := omega) only [go_sem, ↓IntWalk.iteOmega, IntWalk.toNatUp, Nat.reduceEqDiff, Nat.reduceAdd, Nat.reduceMul, Nat.reduceSub, Nat.reduceLT, Nat.reduceLeDiff, Int.reduceToNat, Int.reduceLT, Int.reduceLE, Int.reduceEq, Int.reduceAdd, Int.reduceSub, Int.reduceMul, Int.toNat_natCast, reduceCtorEq, decide_true, decide_false, IntWalk.i64_in, IntWalk.u64_in, IntWalk.u8_in], by simp (disch := omega) only [go_sem, ↓IntWalk.iteOmega, IntWalk.toNatUp, Nat.reduceEqDiff, Nat.reduceAdd, Nat.reduceMul, Nat.reduceSub, Nat.reduceLT, Nat.reduceLeDiff, Int.reduceToNat, Int.reduceLT, Int.reduceLE, Int.reduceEq, Int.reduceAdd, Int.reduceSub, Int.reduceMul, Int.toNat_natCast, reduceCtorEq, decide_true, decide_false, IntWalk.i64_in, IntWalk.u64_in, IntWalk.u8_in]⟩ ?_
    clear hHS h0 hm2 h7 h12 h13 h14 ho34 ho20 ho17
    rintro mm a o' nx' ⟨j, v, hj, rfl, hnx', hHS, hkp', h0, hm2, h7, h12, h13, h14, h24, h25, h26⟩
    have hok := hHS.ok
    by_cases hjl : j < row.length
    · obtain ⟨i1, g1, rfl, hi1, hr1⟩ := hrow1 (by omega)
      have ho44 : o' (i1, 44) = _ := (hkp' i1 44 hi1 (by decide)).trans hr1
      have hat3 := cS_at hjl
      have htk3 := take_succ_getD hjl (0, 0, 0)
      have hle3 := hits_le m (row.take j)
      rw [List.length_take] at hle3
      generalize row.getD j (0, 0, 0) = p at hat3 htk3
      obtain ⟨f, t, set⟩ := p
      simp only at hat3
      have hsn3 : hits m (row.take (j + 1)) = hits m (row.take j) ++ (if hasMode set m then [t] else []) := by rw [htk3, hits_snoc]
      by_cases hmd : andI .i64 (set.fdiv (2 ^ min m.toNat 64)) 1 = 1
      · have hmd' : hasMode set m = true := decide_eq_true hmd
        rw [hmd', if_pos rfl] at hsn3
        rcases hHS with ⟨rfl, e2, e3⟩ | ⟨i2, g2, rfl, hi2, hrow2, hlen2⟩
        · have ep : prev ++ hits m (row.take j) = [] := List.length_eq_zero_iff.1 e2
          have elen : prev.length + (hits m (row.take (j + 1))).length = 1 := by rw [hsn3, List.length_append, ← Nat.add_assoc, ← List.length_append, ep]; rfl
          have ecs : cI (prev ++ hits m (row.take (j + 1))) = [.int .i64 t] := by rw [hsn3, ← List.append_assoc, ep]; rfl
          simp (disch := omega) only [go_sem, ↓IntWalk.iteOmega, IntWalk.toNatUp, Nat.reduceEqDiff, Nat.reduceAdd, Nat.reduceMul, Nat.reduceSub, Nat.reduceLT, Nat.reduceLeDiff, Int.reduceToNat, Int.reduceLT, Int.reduceLE, Int.reduceEq, Int.reduceAdd, Int.reduceSub, Int.reduceMul, Int.toNat_natCast, reduceCtorEq, decide_true, decide_false, IntWalk.i64_in, IntWalk.u64_in, IntWalk.u8_in, h0, hm2, h7, h12, h13, h14, h24, h25, h26, ho44, hat3, hmd]
          refine ⟨_, ?_, j + 1, _, by omega, rfl, by omega, ?_, ?_, rfl, rfl⟩
          · omega
          · rw [elen, ecs]
            exact .inr ⟨nx' + 1 + 1 + 1, _, rfl, by omega, upd_same _ _ _, rfl⟩
          · exact (((hkp'.upd (.inl (by omega))).upd (.inl (by omega))).upd (.inl (by omega))).upd (.inr rfl)
        · have elen : prev.length + (hits m (row.take (j + 1))).length = prev.length + (hits m (row.take j)).length + 1 := by rw [hsn3, List.length_append]; rfl
          have ecs : cI (prev ++ hits m (row.take (j + 1))) = cI (prev ++ hits m (row.take j)) ++ [.int .i64 t] := by rw [hsn3, ← List.append_assoc, cI_app]; rfl
          have etk : (cI (prev ++ hits m (row.take j))).take (prev.length + (hits m (row.take j)).length) = cI (prev ++ hits m (row.take j)) := take_len (by rw [cI_length, List.length_append])
          simp (disch := omega) only [go_sem, ↓IntWalk.iteOmega, IntWalk.toNatUp, Nat.reduceEqDiff, Nat.reduceAdd, Nat.reduceMul, Nat.reduceSub, Nat.reduceLT, Nat.reduceLeDiff, Int.reduceToNat, Int.reduceLT, Int.reduceLE, Int.reduceEq, Int.reduceAdd, Int.reduceSub, Int.reduceMul, Int.toNat_natCast, reduceCtorEq, decide_true, decide_false, IntWalk.i64_in, IntWalk.u64_in, IntWalk.u8_in, h0, hm2, h7, h12, h13, h14, h24, h25, h26, ho44, hat3, hmd, hrow2]
          refine ⟨_, ?_, j + 1, _, by omega, rfl, by omega, ?_, ?_, rfl, rfl⟩
          · omega
          · rw [elen, ecs]
            exact .inr ⟨i2, _, rfl, by omega, by rw [upd_same, etk], by simp only [List.length_append, cI_length, List.length_cons, List.length_nil]; omega⟩
          · exact (((hkp'.upd (.inl (by omega))).upd (.inl (by omega))).upd (.inl (by omega))).upd (.inr rfl)
      · have hmd' : hasMode set m = false := decide_eq_false hmd
        rw [hmd'] at hsn3
        simp only [Bool.false_eq_true, if_false, List.append_nil] at hsn3
        simp (disch := omega) only [go_sem, ↓IntWalk.iteOmega, IntWalk.toNatUp, Nat.reduceEqDiff, Nat.reduceAdd, Nat.reduceMul, Nat.reduceSub, Nat.reduceLT, Nat.reduceLeDiff, Int.reduceToNat, Int.reduceLT, Int.reduceLE, Int.reduceEq, Int.reduceAdd, Int.reduceSub, Int.reduceMul, Int.toNat_natCast, reduceCtorEq, decide_true, decide_false, IntWalk.i64_in, IntWalk.u64_in, IntWalk.u8_in, h0, hm2, h7, h12, h13, h14, h24, h25, h26, ho44, hat3, hmd]
        refine ⟨_, ?_, j + 1, _, by omega, rfl, by omega, ?_, ?_, rfl, rfl⟩
        · omega
        · rw [hsn3]
          rw [List.length_append] at hHS
          exact hHS.keep (fun _ _ => by simp [upd_app]) (by omega)
        · exact (hkp'.upd (.inl (by omega))).upd (.inl (by omega))
    · have hje : j = row.length := by omega
      subst hje
      rw [List.take_length, ← hsn] at hHS
      simp (disch := omega) only [go_sem, ↓IntWalk.iteOmega, IntWalk.toNatUp, Nat.reduceEqDiff, Nat.reduceAdd, Nat.reduceMul, Nat.reduceSub, Nat.reduceLT, Nat.reduceLeDiff, Int.reduceToNat, Int.reduceLT, Int.reduceLE, Int.reduceEq, Int.reduceAdd, Int.reduceSub, Int.reduceMul, Int.toNat_natCast, reduceCtorEq, decide_true, decide_false, IntWalk.i64_in, IntWalk.u64_in, IntWalk.u8_in, h0, hm2, h7, h12, h13, h14, h24, h25, h26]
      exact ⟨_, by omega, i + 1, v, by omega, rfl, by omega, hHS.keep (fun _ _ => rfl) (by omega), fun i k hi hk => (hkp' i k (by omega) hk).trans (hkp i k hi hk), rfl, rfl⟩
  · have hie : i = (idxs b).length := by omega
    subst hie
    rw [List.take_length] at hHS
    have hclo := XClo_eq hw (byL (leadsOf N ss) m (idxs b)) (by have := hbyle (idxs b); omega)
    rw [byL_close (fun p hp => (hw.steps p hp).1) hb hm] at hclo
    have hv : view o 12 v = slI (byL (leadsOf N ss) m (idxs b)) := by rw [hHS.view 11, view_cI]
    have htg := hHS.tags 11 (tags_cI _ _ _)
    simp (disch := omega) only [go_sem, ↓IntWalk.iteOmega, IntWalk.toNatUp, Nat.reduceEqDiff, Nat.reduceAdd, Nat.reduceMul, Nat.reduceSub, Nat.reduceLT, Nat.reduceLeDiff, Int.reduceToNat, Int.reduceLT, Int.reduceLE, Int.reduceEq, Int.reduceAdd, Int.reduceSub, Int.reduceMul, Int.toNat_natCast, reduceCtorEq, decide_true, decide_false, IntWalk.i64_in, IntWalk.u64_in, IntWalk.u8_in, h0, hm2, h7, h12, h13, h14, ho20, hclo, hv]
    exact ⟨by omega, hkp.seal htg⟩
end Go.Proofs.YtbapebepmbikhaaDoor.A
/- Machines of one way out of machines of many: whether a set accepts; calls on what Subsets keeps. -/
namespace Go.Proofs.YtbapebepmbikhaaDoor.A
open Go
set_option maxRecDepth 20000
def RAcc (args : List AV) (r : AV) : Prop := ∃ (N S F : Int) (rest : List AV) (l : List Int), l.length ≤ 100000 ∧ args = [.fptr (.int .i64 N :: .int .i64 S :: .int .i64 F :: rest), slI l] ∧ r = .bool (decide (F ∈ l))
theorem RAcc_fn : Fun1 RAcc := by
  rintro args r r' ⟨N, S, F, rest, l, _, rfl, rfl⟩ ⟨N', S', F', rest', l', _, h, rfl⟩
  simp only [List.cons.injEq, AV.fptr.injEq, AV.int.injEq, true_and, and_true] at h
  obtain ⟨⟨_, _, h1, _⟩, h2⟩ := h
  rw [h1, slI_inj h2]
theorem lookAcc (X) : lookedAt (EX md0 X) (fun _ => none) 2 Tryd.f38 = true := by kernel_rfl
theorem acc_ok (N S F : Int) (rest : List AV) (l : List Int) (hl : l.length ≤ 100000) : Ok Tryd.prog 38 [.fptr (.int .i64 N :: .int .i64 S :: .int .i64 F :: rest), slI l] (.bool (decide (F ∈ l))) := by
  refine ok_of_WP (E := EX md0 (fun _ _ => none)) (cr := noR) (tab_nil _) (noR_ok _) mixed (k := l.length + 1) Tryd.func38 (lookAcc _) rfl ?_
  simp only [Tryd.f38, Option.getD_some]
  simp (disch := omega) only [go_sem, ↓IntWalk.iteOmega, IntWalk.toNatUp, Nat.reduceEqDiff, Nat.reduceAdd, Nat.reduceMul, Nat.reduceSub, Nat.reduceLT, Nat.reduceLeDiff, Int.reduceToNat, Int.reduceLT, Int.reduceLE, Int.reduceEq, Int.reduceAdd, Int.reduceSub, Int.reduceMul, Int.toNat_natCast, reduceCtorEq, decide_true, decide_false, IntWalk.i64_in, IntWalk.u64_in, IntWalk.u8_in]
  refine WP_loop (fun m a o nx => ∃ i, i ≤ l.length ∧ m = l.length - i ∧ (∀ x ∈ l.take i, x ≠ F) ∧ a 0 = .fptr (.int .i64 N :: .int .i64 S :: .int .i64 F :: rest) ∧ a 7 = slI l ∧ a 8 = .int .i64 l.length ∧ a 9 = .int .i64 i) l.length (by omega) ⟨0, by omega, by omega, fun x hx => absurd hx (by simp), by simp (disch := omega) only [go_sem, ↓IntWalk.iteOmega, IntWalk.toNatUp, Nat.reduceEqDiff, Nat.reduceAdd, Nat.reduceMul, Nat.reduceSub, Nat.reduceLT, Nat.reduceLeDiff, Int.reduceToNat, Int.reduceLT, Int.reduceLE, Int.reduceEq, Int.reduceAdd, Int.reduceSub, Int.reduceMul, Int.toNat_natCast, reduceCtorEq, decide_true, decide_false, IntWalk.i64_in, IntWalk.u64_in, IntWalk.u8_in], by simp (disch := omega) only [go_sem, ↓IntWalk.iteOmega, IntWalk.toNatUp, Nat.reduceEqDiff, Nat.reduceAdd, Nat.reduceMul, Nat.reduceSub, Nat.reduceLT, Nat.reduceLeDiff, Int.reduceToNat, Int.reduceLT, Int.reduceLE, Int.reduceEq, Int.reduceAdd, Int.reduceSub, Int.reduceMul, Int.toNat_natCast, reduceCtorEq, decide_true, decide_false, IntWalk.i64_in, IntWalk.u64_in, IntWalk.u8_in], by simp (disch := omega) only [go_sem, ↓IntWalk.iteOmega, IntWalk.toNatUp, Nat.reduceEqDiff, Nat.reduceAdd, Nat.reduceMul, Nat.reduceSub, Nat.reduceLT, Nat.reduceLeDiff, Int.reduceToNat, Int.reduceLT, Int.reduceLE, Int.reduceEq, Int.reduceAdd, Int.reduceSub, Int.reduceMul, Int.toNat_natCast, reduceCtorEq, decide_true, decide_false, IntWalk.i64_in, IntWalk.u64_in, IntWalk.u8_in], by simp (disch := omega) only [go_sem, ↓IntWalk.iteOmega, IntWalk.toNatUp, Nat.reduceEqDiff, Nat.reduceAdd, Nat.reduceMul, Nat.reduceSub, Nat.reduceLT, Nat.reduceLeDiff, Int.reduceToNat, Int.reduceLT, Int.reduceLE, Int.reduceEq, Int.reduceAdd, Int.reduceSub, Int.reduceMul, Int.toNat_natCast, reduceCtorEq, decide_true, decide_false, IntWalk.i64_in, IntWalk.u64_in, IntWalk.u8_in]⟩ ?_
  rintro m a o nx ⟨i, hi, rfl, hall, h0, h7, h8, h9⟩
  by_cases hlt : i < l.length
  · have hat := cI_get (s := 1) hlt
    have hmem := getD_mem hlt 0
    have htk := take_succ_getD hlt 0
    generalize l.getD i 0 = x at hat hmem htk
    by_cases hx : x = F
    · rw [decide_eq_true (hx ▸ hmem : F ∈ l)]
      simp (disch := omega) only [go_sem, ↓IntWalk.iteOmega, IntWalk.toNatUp, Nat.reduceEqDiff, Nat.reduceAdd, Nat.reduceMul, Nat.reduceSub, Nat.reduceLT, Nat.reduceLeDiff, Int.reduceToNat, Int.reduceLT, Int.reduceLE, Int.reduceEq, Int.reduceAdd, Int.reduceSub, Int.reduceMul, Int.toNat_natCast, reduceCtorEq, decide_true, decide_false, IntWalk.i64_in, IntWalk.u64_in, IntWalk.u8_in, h0, h7, h8, h9, hat, hx]
    · simp (disch := omega) only [go_sem, ↓IntWalk.iteOmega, IntWalk.toNatUp, Nat.reduceEqDiff, Nat.reduceAdd, Nat.reduceMul, Nat.reduceSub, Nat.reduceLT, Nat.reduceLeDiff, Int.reduceToNat, Int.reduceLT, Int.reduceLE, Int.reduceEq, Int.reduceAdd, Int.reduceSub, Int.reduceMul, Int.toNat_natCast, reduceCtorEq, decide_true, decide_false, IntWalk.i64_in, IntWalk.u64_in, IntWalk.u8_in, h0, h7, h8, h9, hat, hx]
      refine ⟨_, by omega, i + 1, by omega, rfl, fun y hy => ?_, rfl⟩
      rw [htk] at hy
      rcases List.mem_append.1 hy with hy | hy
      · exact hall y hy
      · rw [List.mem_singleton.1 hy]; exact hx
  · have hie : i = l.length := by omega
    subst hie
    rw [List.take_length] at hall
    rw [decide_eq_false (fun h => hall F h rfl)]
    simp (disch := omega) only [go_sem, ↓IntWalk.iteOmega, IntWalk.toNatUp, Nat.reduceEqDiff, Nat.reduceAdd, Nat.reduceMul, Nat.reduceSub, Nat.reduceLT, Nat.reduceLeDiff, Int.reduceToNat, Int.reduceLT, Int.reduceLE, Int.reduceEq, Int.reduceAdd, Int.reduceSub, Int.reduceMul, Int.toNat_natCast, reduceCtorEq, decide_true, decide_false, IntWalk.i64_in, IntWalk.u64_in, IntWalk.u8_in, h0, h7, h8, h9]
theorem RAcc_ok (args r) (h : RAcc args r) : Ok Tryd.prog 38 args r := by
  obtain ⟨N, S, F, rest, l, h1, rfl, rfl⟩ := h
  exact acc_ok N S F rest l h1
theorem runP_call {E : Env} {cr : CallR} {k : Nat} {nz : Nat → Option (List (Nat × Nat))} {fn : Func} {c : Code} {args : List AV} {o : Ob} {nx : Nat} {K : AV × AH → Prop} (hb : fn.body = some c)
    (h : WP E cr k nz c (begin_ args) o nx (fun u a o' nx' => (u = .normal ∨ u = .ret) ∧ wO (resultsL E.P a ⟨o', nx'⟩ fn.results.toList) (fun vs => K (tup1 vs, ⟨o', nx'⟩)))) : wO (Option.map (fun p => freezeR false p.1 p.2) (runP E cr k nz fn args ⟨o, nx⟩)) K := by
  obtain ⟨v, H', h1, h2⟩ := runPR_of_WP (Post := fun v o' nx' => K (v, ⟨o', nx'⟩)) hb h
  rw [h1]
  exact h2
noncomputable def crSub : CallR := tabLookR [(35, fun args H => if args.length = 2 then runP (EX md0 XNm) noR 0 (fun _ => none) Tryd.f35 args H else none), (37, fun args H => if args.length = 3 then runP (EX md0 XClo) noR 1001 (fun _ => none) Tryd.f37 args H else none)]
theorem crSub_ok : CRSound Tryd.prog crSub ∧ Up crSub := by
  refine tabR_cons (tabR_cons (tabR_nil _) fun args H v H' h => ?_) fun args H v H' h => ?_
  · split at h
    · rename_i hn
      exact okR_run (E := EX md0 XClo) XClo_ok (noR_ok Tryd.prog).1 (noR_ok Tryd.prog).2 mixed Tryd.func37 (by rw [hn]; exact lookBy XClo) h
    · cases h
  · split at h
    · rename_i hn
      exact okR_run (E := EX md0 XNm) XNm_ok (noR_ok Tryd.prog).1 (noR_ok Tryd.prog).2 mixed Tryd.func35 (by rw [hn]; exact lookMet XNm) h
    · cases h
theorem met_call {o : Ob} {nx : Nat} {N : Nat} {S F : Int} {ss fs lr} {L : List (List Bool)} {K : AV × AH → Prop} (hN : N ≤ 1000) (h : SubAt o nx N S F ss fs lr L) (hL : ∀ b ∈ L, b.length = N) (hLn : L.length ≤ 100000) {t : List Bool} (ht : t.length = N)
    (hK : ∀ o' nx', nx ≤ nx' → SubAt o' nx' N S F ss fs lr (metS L t) → SKeep nx o o' → K (.int .i64 (L.idxOf t : Int), ⟨o', nx'⟩)) : wO (Option.map (fun p => freezeR false p.1 p.2) (crSub 35 [subP, slI (idxs t)] ⟨o, nx⟩)) K := by
  refine runP_call (E := EX md0 XNm) (fn := Tryd.f35) rfl (WP_mono (met_wp hN h hL hLn ht) ?_)
  rintro u a o' nx' ⟨rfl, h4, h1, h2, h3⟩
  refine ⟨.inr rfl, ?_⟩
  simp only [Tryd.f35]
  simp (disch := omega) only [go_sem, ↓IntWalk.iteOmega, IntWalk.toNatUp, Nat.reduceEqDiff, Nat.reduceAdd, Nat.reduceMul, Nat.reduceSub, Nat.reduceLT, Nat.reduceLeDiff, Int.reduceToNat, Int.reduceLT, Int.reduceLE, Int.reduceEq, Int.reduceAdd, Int.reduceSub, Int.reduceMul, Int.toNat_natCast, reduceCtorEq, decide_true, decide_false, IntWalk.i64_in, IntWalk.u64_in, IntWalk.u8_in, h4]
  exact hK o' nx' h1 h2 h3
theorem by_call {o : Ob} {nx : Nat} {N : Nat} {S F : Int} {ss fs} {L : List (List Bool)} {K : AV × AH → Prop} (hN : N ≤ 1000) (hw : Wf N S F ss fs) (hss : ss.length ≤ 1000) (h : SubAt o nx N S F ss fs (leadsOf N ss) L) {b : List Bool} (hb : b.length = N) {q : Nat} {g : Tag} (hq : q < nx) (hrow : o (q, 34) = some (.row ⟨3, 1, g, false, true, cI (idxs b)⟩)) {m : Int} (hm : 0 ≤ m ∧ m < 5)
    (hK : ∀ o' nx', nx ≤ nx' → BKeep40 nx o o' → K (slI (idxs (stepB N (rowsOf N fs) ss b m)), ⟨o', nx'⟩)) : wO (Option.map (fun p => freezeR false p.1 p.2) (crSub 37 [subP, .ref (q, 34) g 0 (idxs b).length, .int .i64 m] ⟨o, nx⟩)) K := by
  refine runP_call (E := EX md0 XClo) (fn := Tryd.f37) rfl (WP_mono (by_wp hN hw hss h hb hq hrow hm (by omega)) ?_)
  rintro u a o' nx' ⟨rfl, h6, h1, h2⟩
  refine ⟨.inr rfl, ?_⟩
  simp only [Tryd.f37]
  simp (disch := omega) only [go_sem, ↓IntWalk.iteOmega, IntWalk.toNatUp, Nat.reduceEqDiff, Nat.reduceAdd, Nat.reduceMul, Nat.reduceSub, Nat.reduceLT, Nat.reduceLeDiff, Int.reduceToNat, Int.reduceLT, Int.reduceLE, Int.reduceEq, Int.reduceAdd, Int.reduceSub, Int.reduceMul, Int.toNat_natCast, reduceCtorEq, decide_true, decide_false, IntWalk.i64_in, IntWalk.u64_in, IntWalk.u8_in, h6]
  exact hK o' nx' h1 h2
end Go.Proofs.YtbapebepmbikhaaDoor.A
/- A world whose listed variables are laid; what a tied card asks. -/
namespace Go.Proofs.YtbapebepmbikhaaDoor
open Go Go.Proofs.YtbapebepmbikhaaDoor.A
set_option maxRecDepth 100000
abbrev laidL : List (String × DataW Unit) := [("math/bits.deBruijn32tab", Rows.laid_math_bits_deBruijn32tab), ("math/bits.deBruijn64tab", Rows.laid_math_bits_deBruijn64tab), ("internal/strconv.uint64pow10", Rows.laid_internal_strconv_uint64pow10)]
theorem laidL_noh : (laidL.filter fun x => x.2.handleName?.isSome) = [] := by kernel_rfl
noncomputable def laidWorld (os : Os) : World :=
  layW (layW (layW (World.holding Tryd.prog os ⟨#[], #[], []⟩) ((Tryd.prog.globalNamed "internal/strconv.uint64pow10").getD 0) (laidCells Rows.laid_internal_strconv_uint64pow10)) ((Tryd.prog.globalNamed "math/bits.deBruijn32tab").getD 0) (laidCells Rows.laid_math_bits_deBruijn32tab)) ((Tryd.prog.globalNamed "math/bits.deBruijn64tab").getD 0) (laidCells Rows.laid_math_bits_deBruijn64tab)
theorem laidWorld_met (os : Os) (args : Array Value) : laidMetH Tryd.prog laidL ((laidWorld os).forCall (fun _ _ => 0) ⟨#[], args, []⟩).memory := by
  rw [laidMetH_plain laidL_noh]
  exact laidMet_of_run' 80 (by kernel_rfl) (by kernel_rfl)
theorem laid_gl (W : World) (h : laidMetH Tryd.prog laidL W) : Gl (Old W) W := by
  rw [laidMetH_plain laidL_noh] at h
  obtain ⟨ps, hv, _⟩ := h
  obtain ⟨g, t, cs, fuel, p, h1, h2, h3, h4⟩ := laidVars_at (n := "internal/strconv.uint64pow10") (d := Lib.tabData .u64 Lib.pow10Tab) hv (List.mem_cons_of_mem _ (List.mem_cons_of_mem _ (by rw [show (Lib.tabData .u64 Lib.pow10Tab : DataW Unit) = Rows.laid_internal_strconv_uint64pow10 by kernel_rfl]; exact List.mem_cons_self ..)))
  obtain ⟨ty, m, hh⟩ := var_heap h1 h3
  obtain rfl : 0 = g := Option.some.inj ((show Tryd.prog.globalNamed "internal/strconv.uint64pow10" = some 0 by kernel_rfl).symm.trans h1)
  obtain rfl : 122 = t := Option.some.inj ((show (Tryd.prog.globals[0]?).map (·.type) = some 122 by kernel_rfl).symm.trans h2)
  have hc := Lib.cells_of_tab (e := 114) (n := 20) (by kernel_rfl) (by kernel_rfl) (by kernel_rfl) (by kernel_rfl) h4
  intro x hx
  obtain rfl : x = (0, Lib.pow10Tab.map fun z => Value.int .u64 z) := List.mem_singleton.1 hx
  refine ⟨(Array.getElem?_eq_some_iff.1 hh).1, ty, m, ?_⟩
  rw [hh, ← hc]
theorem wants_all {P : Program} {l : Array TypeId} (h : (l.toList.all fun t => !P.wantsStandIn t) = true) {j : Nat} {t : TypeId} (ht : l[j]? = some t) : P.wantsStandIn t = false := by
  have := List.all_eq_true.1 h t (by
    rw [← Array.getElem?_toList] at ht
    exact List.mem_of_getElem? ht)
  simpa using this
end Go.Proofs.YtbapebepmbikhaaDoor
/- Machines of one way: state, Go, Run. -/
namespace Go.Proofs.YtbapebepmbikhaaDoor.A
open Go
set_option maxRecDepth 20000
/-- A machine of n states: where they lead, five by five; whether they accept. -/
abbrev dfaV (n : Nat) (N : List Int) (A : List Bool) : AV := .agg [.sl n (cI N), slB A]
theorem dfaV_inj {n n' : Nat} {N N' : List Int} {A A' : List Bool} (h : dfaV n N A = dfaV n' N' A') : n = n' ∧ N = N' ∧ A = A' := by
  injection h with h
  simp only [List.cons.injEq, AV.sl.injEq, and_true] at h
  exact ⟨h.1.1, cI_inj h.1.2, cB_inj h.2.2⟩
def goD (N : List Int) : Int → List Int → Int
  | s, [] => s
  | s, m :: w => if m < 0 ∨ 5 ≤ m then -1 else goD N (N.getD (s.toNat * 5 + m.toNat) 0) w
def goFull (n : Nat) (N : List Int) (s : Int) (w : List Int) : Int := if 0 ≤ s ∧ s < (n : Int) then goD N s w else -1
def runD (n : Nat) (N : List Int) (A : List Bool) (w : List Int) : Bool := if 0 ≤ goFull n N 0 w then A.getD (goFull n N 0 w).toNat false else false
structure WfD (n : Nat) (N : List Int) (A : List Bool) : Prop where
  sz : 1 ≤ n ∧ n ≤ 2000
  l : N.length = 5 * n
  a : A.length = n
  e : ∀ x ∈ N, 0 ≤ x ∧ x < (n : Int)
theorem WfD.get {n N A} (h : WfD n N A) {k : Nat} (hk : k < 5 * n) : 0 ≤ N.getD k 0 ∧ N.getD k 0 < (n : Int) := by
  have hk' : k < N.length := by rw [h.l]; exact hk
  rw [List.getD_eq_getElem?_getD, List.getElem?_eq_getElem hk']
  exact h.e _ (List.getElem_mem ..)
theorem goD_in {n N A} (h : WfD n N A) : ∀ (w : List Int) (s : Int), 0 ≤ s → s < (n : Int) → -1 ≤ goD N s w ∧ goD N s w < (n : Int)
  | [], s, h1, h2 => by rw [goD]; omega
  | m :: w, s, h1, h2 => by
    rw [goD]
    by_cases hm : m < 0 ∨ 5 ≤ m
    · rw [if_pos hm]; omega
    · rw [if_neg hm]
      have := h.get (k := s.toNat * 5 + m.toNat) (by omega)
      exact goD_in h w _ this.1 this.2
theorem goD_cut (N : List Int) : ∀ (w : List Int) (i : Nat) (s : Int), i ≤ w.length → (∀ x ∈ w.take i, 0 ≤ x ∧ x < 5) → goD N s w = goD N (goD N s (w.take i)) (w.drop i)
  | w, 0, s, _, _ => by rw [List.take_zero, List.drop_zero, goD]
  | [], i + 1, s, h, _ => by simp at h
  | m :: w, i + 1, s, h, hx => by
    have hm := hx m (by simp)
    rw [List.take_succ_cons, List.drop_succ_cons, goD, goD, if_neg (by omega), if_neg (by omega)]
    exact goD_cut N w i _ (by simpa using h) (fun x hx' => hx x (by rw [List.take_succ_cons]; exact List.mem_cons_of_mem _ hx'))
def RStD (args : List AV) (r : AV) : Prop := ∃ (n : Nat) (N : List Int) (A : List Bool) (s : Int), args = [dfaV n N A, .int .i64 s] ∧ r = .bool (decide (0 ≤ s ∧ s < (n : Int)))
theorem RStD_fn : Fun1 RStD := by
  rintro args r r' ⟨n, N, A, s, rfl, rfl⟩ ⟨n', N', A', s', h, rfl⟩
  simp only [List.cons.injEq, AV.int.injEq, true_and, and_true] at h
  rw [(dfaV_inj h.1).1, h.2]
theorem lookStD (X) : lookedAt (EX md0 X) (fun _ => none) 2 Tryd.f32 = true := by kernel_rfl
theorem RStD_ok (args r) (h : RStD args r) : Ok Tryd.prog 32 args r := by
  obtain ⟨n, N, A, s, rfl, rfl⟩ := h
  refine ok_of_WP (E := EX md0 (fun _ _ => none)) (cr := noR) (tab_nil _) (noR_ok _) mixed (k := 0) Tryd.func32 (lookStD _) rfl ?_
  simp only [Tryd.f32, Option.getD_some]
  by_cases h1 : 0 ≤ s
  · by_cases h2 : s < (n : Int)
    · rw [decide_eq_true ⟨h1, h2⟩]
      simp (disch := omega) only [go_sem, ↓IntWalk.iteOmega, IntWalk.toNatUp, Nat.reduceEqDiff, Nat.reduceAdd, Nat.reduceMul, Nat.reduceSub, Nat.reduceLT, Nat.reduceLeDiff, Int.reduceToNat, Int.reduceLT, Int.reduceLE, Int.reduceEq, Int.reduceAdd, Int.reduceSub, Int.reduceMul, Int.toNat_natCast, reduceCtorEq, decide_true, decide_false, IntWalk.i64_in, IntWalk.u64_in, IntWalk.u8_in, h1, h2]
    · rw [decide_eq_false (fun h => h2 h.2)]
      simp (disch := omega) only [go_sem, ↓IntWalk.iteOmega, IntWalk.toNatUp, Nat.reduceEqDiff, Nat.reduceAdd, Nat.reduceMul, Nat.reduceSub, Nat.reduceLT, Nat.reduceLeDiff, Int.reduceToNat, Int.reduceLT, Int.reduceLE, Int.reduceEq, Int.reduceAdd, Int.reduceSub, Int.reduceMul, Int.toNat_natCast, reduceCtorEq, decide_true, decide_false, IntWalk.i64_in, IntWalk.u64_in, IntWalk.u8_in, h1, h2]
  · rw [decide_eq_false (fun h => h1 h.1)]
    simp (disch := omega) only [go_sem, ↓IntWalk.iteOmega, IntWalk.toNatUp, Nat.reduceEqDiff, Nat.reduceAdd, Nat.reduceMul, Nat.reduceSub, Nat.reduceLT, Nat.reduceLeDiff, Int.reduceToNat, Int.reduceLT, Int.reduceLE, Int.reduceEq, Int.reduceAdd, Int.reduceSub, Int.reduceMul, Int.toNat_natCast, reduceCtorEq, decide_true, decide_false, IntWalk.i64_in, IntWalk.u64_in, IntWalk.u8_in, h1]
noncomputable def XStD : FuncId → List AV → Option AV := tabLook [(32, tRel RStD)]
theorem XStD_ok : CPSound Tryd.prog XStD := tab_cons (tab_nil _) (tRel_ok RStD_ok)
theorem XStD_eq (n : Nat) (N : List Int) (A : List Bool) (s : Int) : XStD 32 [dfaV n N A, .int .i64 s] = some (.bool (decide (0 ≤ s ∧ s < (n : Int)))) := tRel_eq RStD_fn ⟨n, N, A, s, rfl, rfl⟩
theorem lookGoD : lookedAt (EX md0 XStD) (fun _ => none) 3 Tryd.f19 = true := by kernel_rfl
theorem lookGoR (X) : lookedAt (EX md0 X) (fun _ => none) 3 Tryd.f20 = true := by kernel_rfl
theorem go_drop {N : List Int} {w : List Int} {i : Nat} (h : i < w.length) (s : Int) : goD N s (w.drop i) = if w.getD i 0 < 0 ∨ 5 ≤ w.getD i 0 then -1 else goD N (N.getD (s.toNat * 5 + (w.getD i 0).toNat) 0) (w.drop (i + 1)) := by
  have e : w.getD i 0 = w[i] := by simp [List.getD, h]
  rw [List.drop_eq_getElem_cons h, goD, e]
theorem dgo_ok {n : Nat} {N : List Int} {A : List Bool} (hw : WfD n N A) (s : Int) (w : List Int) (hl : w.length ≤ 1000000) : Ok Tryd.prog 19 [dfaV n N A, .int .i64 s, slI w] (.int .i64 (goFull n N s w)) := by
  refine ok_of_WP (E := EX md0 XStD) (cr := noR) XStD_ok (noR_ok _) mixed (k := 1000002) Tryd.func19 lookGoD rfl ?_
  have hst := XStD_eq n N A s
  have hn := hw.sz
  have hN := hw.l
  simp only [Tryd.f19, Option.getD_some]
  unfold goFull
  by_cases hs : 0 ≤ s ∧ s < (n : Int)
  · rw [if_pos hs]
    rw [decide_eq_true hs] at hst
    simp (disch := omega) only [go_sem, ↓IntWalk.iteOmega, IntWalk.toNatUp, Nat.reduceEqDiff, Nat.reduceAdd, Nat.reduceMul, Nat.reduceSub, Nat.reduceLT, Nat.reduceLeDiff, Int.reduceToNat, Int.reduceLT, Int.reduceLE, Int.reduceEq, Int.reduceAdd, Int.reduceSub, Int.reduceMul, Int.toNat_natCast, reduceCtorEq, decide_true, decide_false, IntWalk.i64_in, IntWalk.u64_in, IntWalk.u8_in, hst]
    refine WP_loop (fun m a o nx => ∃ (i : Nat) (s' : Int), i ≤ w.length ∧ m = w.length - i ∧ 0 ≤ s' ∧ s' < (n : Int) ∧ goD N s w = goD N s' (w.drop i) ∧ a 1 = .int .i64 s' ∧ a 3 = .ptr (0, 3) (0, 3) 0 ∧ a 13 = slI w ∧ a 14 = .int .i64 w.length ∧ a 15 = .int .i64 i ∧ o (0, 3) = some (.row ⟨25, 1, (0, 3), false, true, [.sl n (cI N), slB A]⟩)) w.length (by omega) ⟨0, s, by omega, by omega, hs.1, hs.2, rfl, by simp (disch := omega) only [go_sem, ↓IntWalk.iteOmega, IntWalk.toNatUp, Nat.reduceEqDiff, Nat.reduceAdd, Nat.reduceMul, Nat.reduceSub, Nat.reduceLT, Nat.reduceLeDiff, Int.reduceToNat, Int.reduceLT, Int.reduceLE, Int.reduceEq, Int.reduceAdd, Int.reduceSub, Int.reduceMul, Int.toNat_natCast, reduceCtorEq, decide_true, decide_false, IntWalk.i64_in, IntWalk.u64_in, IntWalk.u8_in], by simp (disch := omega) only [go_sem, ↓IntWalk.iteOmega, IntWalk.toNatUp, Nat.reduceEqDiff, Nat.reduceAdd, Nat.reduceMul, Nat.reduceSub, Nat.reduceLT, Nat.reduceLeDiff, Int.reduceToNat, Int.reduceLT, Int.reduceLE, Int.reduceEq, Int.reduceAdd, Int.reduceSub, Int.reduceMul, Int.toNat_natCast, reduceCtorEq, decide_true, decide_false, IntWalk.i64_in, IntWalk.u64_in, IntWalk.u8_in], by simp (disch := omega) only [go_sem, ↓IntWalk.iteOmega, IntWalk.toNatUp, Nat.reduceEqDiff, Nat.reduceAdd, Nat.reduceMul, Nat.reduceSub, Nat.reduceLT, Nat.reduceLeDiff, Int.reduceToNat, Int.reduceLT, Int.reduceLE, Int.reduceEq, Int.reduceAdd, Int.reduceSub, Int.reduceMul, Int.toNat_natCast, reduceCtorEq, decide_true, decide_false, IntWalk.i64_in, IntWalk.u64_in, IntWalk.u8_in], by simp (disch := omega) only [go_sem, ↓IntWalk.iteOmega, IntWalk.toNatUp, Nat.reduceEqDiff, Nat.reduceAdd, Nat.reduceMul, Nat.reduceSub, Nat.reduceLT, Nat.reduceLeDiff, Int.reduceToNat, Int.reduceLT, Int.reduceLE, Int.reduceEq, Int.reduceAdd, Int.reduceSub, Int.reduceMul, Int.toNat_natCast, reduceCtorEq, decide_true, decide_false, IntWalk.i64_in, IntWalk.u64_in, IntWalk.u8_in], by simp (disch := omega) only [go_sem, ↓IntWalk.iteOmega, IntWalk.toNatUp, Nat.reduceEqDiff, Nat.reduceAdd, Nat.reduceMul, Nat.reduceSub, Nat.reduceLT, Nat.reduceLeDiff, Int.reduceToNat, Int.reduceLT, Int.reduceLE, Int.reduceEq, Int.reduceAdd, Int.reduceSub, Int.reduceMul, Int.toNat_natCast, reduceCtorEq, decide_true, decide_false, IntWalk.i64_in, IntWalk.u64_in, IntWalk.u8_in], by simp [upd_app]⟩ ?_
    rintro m a o nx ⟨i, s', hi, rfl, hs1, hs2, hgo, h1, h3, h13, h14, h15, o3⟩
    by_cases hlt : i < w.length
    · have hg := cI_get (s := 1) hlt
      rw [go_drop hlt] at hgo
      obtain ⟨x, hx⟩ : ∃ x, x = w.getD i 0 := ⟨_, rfl⟩
      rw [← hx] at hg hgo
      by_cases hx0 : x < 0
      · rw [if_pos (.inl hx0)] at hgo
        simp (disch := omega) only [go_sem, ↓IntWalk.iteOmega, IntWalk.toNatUp, Nat.reduceEqDiff, Nat.reduceAdd, Nat.reduceMul, Nat.reduceSub, Nat.reduceLT, Nat.reduceLeDiff, Int.reduceToNat, Int.reduceLT, Int.reduceLE, Int.reduceEq, Int.reduceAdd, Int.reduceSub, Int.reduceMul, Int.toNat_natCast, reduceCtorEq, decide_true, decide_false, IntWalk.i64_in, IntWalk.u64_in, IntWalk.u8_in, h1, h3, h13, h14, h15, o3, hg, hx0]
        rw [hgo]
      · by_cases hx5 : 5 ≤ x
        · rw [if_pos (.inr hx5)] at hgo
          simp (disch := omega) only [go_sem, ↓IntWalk.iteOmega, IntWalk.toNatUp, Nat.reduceEqDiff, Nat.reduceAdd, Nat.reduceMul, Nat.reduceSub, Nat.reduceLT, Nat.reduceLeDiff, Int.reduceToNat, Int.reduceLT, Int.reduceLE, Int.reduceEq, Int.reduceAdd, Int.reduceSub, Int.reduceMul, Int.toNat_natCast, reduceCtorEq, decide_true, decide_false, IntWalk.i64_in, IntWalk.u64_in, IntWalk.u8_in, h1, h3, h13, h14, h15, o3, hg, hx0, hx5]
          rw [hgo]
        · rw [if_neg (by omega)] at hgo
          have hk : s'.toNat * 5 + x.toNat < N.length := by omega
          have hat : take1 false 1 (((cI N).drop (s'.toNat * 5)).drop x.toNat) = some (.int .i64 (N.getD (s'.toNat * 5 + x.toNat) 0)) := by
            rw [List.drop_drop]; exact cI_get hk
          have hin := hw.get (k := s'.toNat * 5 + x.toNat) (by omega)
          simp (disch := omega) only [go_sem, ↓IntWalk.iteOmega, IntWalk.toNatUp, Nat.reduceEqDiff, Nat.reduceAdd, Nat.reduceMul, Nat.reduceSub, Nat.reduceLT, Nat.reduceLeDiff, Int.reduceToNat, Int.reduceLT, Int.reduceLE, Int.reduceEq, Int.reduceAdd, Int.reduceSub, Int.reduceMul, Int.toNat_natCast, reduceCtorEq, decide_true, decide_false, IntWalk.i64_in, IntWalk.u64_in, IntWalk.u8_in, h1, h3, h13, h14, h15, o3, hg, hx0, hx5, hat]
          exact ⟨_, by omega, i + 1, _, by omega, rfl, hin.1, hin.2, hgo, rfl, rfl⟩
    · rw [List.drop_of_length_le (by omega), goD] at hgo
      simp (disch := omega) only [go_sem, ↓IntWalk.iteOmega, IntWalk.toNatUp, Nat.reduceEqDiff, Nat.reduceAdd, Nat.reduceMul, Nat.reduceSub, Nat.reduceLT, Nat.reduceLeDiff, Int.reduceToNat, Int.reduceLT, Int.reduceLE, Int.reduceEq, Int.reduceAdd, Int.reduceSub, Int.reduceMul, Int.toNat_natCast, reduceCtorEq, decide_true, decide_false, IntWalk.i64_in, IntWalk.u64_in, IntWalk.u8_in, h1, h3, h13, h14, h15, o3]
      rw [hgo]
  · rw [if_neg hs]
    rw [decide_eq_false hs] at hst
    simp (disch := omega) only [go_sem, ↓IntWalk.iteOmega, IntWalk.toNatUp, Nat.reduceEqDiff, Nat.reduceAdd, Nat.reduceMul, Nat.reduceSub, Nat.reduceLT, Nat.reduceLeDiff, Int.reduceToNat, Int.reduceLT, Int.reduceLE, Int.reduceEq, Int.reduceAdd, Int.reduceSub, Int.reduceMul, Int.toNat_natCast, reduceCtorEq, decide_true, decide_false, IntWalk.i64_in, IntWalk.u64_in, IntWalk.u8_in, hst]
theorem rgo_ok {n : Nat} {N : List Int} {A : List Bool} (hw : WfD n N A) (s : Int) (w : List Int) (hl : w.length ≤ 1000000) : Ok Tryd.prog 20 [dfaV n N A, .int .i64 s, slI w] (.int .i64 (goFull n N s w)) := by
  refine ok_of_WP (E := EX md0 (fun _ _ => none)) (cr := noR) (tab_nil _) (noR_ok _) mixed (k := 1000002) Tryd.func20 (lookGoR _) rfl ?_
  have hn := hw.sz
  have hN := hw.l
  simp only [Tryd.f20, Option.getD_some]
  unfold goFull
  by_cases hs0 : s < 0
  · rw [if_neg (by omega)]
    simp (disch := omega) only [go_sem, ↓IntWalk.iteOmega, IntWalk.toNatUp, Nat.reduceEqDiff, Nat.reduceAdd, Nat.reduceMul, Nat.reduceSub, Nat.reduceLT, Nat.reduceLeDiff, Int.reduceToNat, Int.reduceLT, Int.reduceLE, Int.reduceEq, Int.reduceAdd, Int.reduceSub, Int.reduceMul, Int.toNat_natCast, reduceCtorEq, decide_true, decide_false, IntWalk.i64_in, IntWalk.u64_in, IntWalk.u8_in, hs0]
  by_cases hsn : (n : Int) ≤ s
  · rw [if_neg (by omega)]
    simp (disch := omega) only [go_sem, ↓IntWalk.iteOmega, IntWalk.toNatUp, Nat.reduceEqDiff, Nat.reduceAdd, Nat.reduceMul, Nat.reduceSub, Nat.reduceLT, Nat.reduceLeDiff, Int.reduceToNat, Int.reduceLT, Int.reduceLE, Int.reduceEq, Int.reduceAdd, Int.reduceSub, Int.reduceMul, Int.toNat_natCast, reduceCtorEq, decide_true, decide_false, IntWalk.i64_in, IntWalk.u64_in, IntWalk.u8_in, hs0, hsn]
  rw [if_pos (by omega)]
  simp (disch := omega) only [go_sem, ↓IntWalk.iteOmega, IntWalk.toNatUp, Nat.reduceEqDiff, Nat.reduceAdd, Nat.reduceMul, Nat.reduceSub, Nat.reduceLT, Nat.reduceLeDiff, Int.reduceToNat, Int.reduceLT, Int.reduceLE, Int.reduceEq, Int.reduceAdd, Int.reduceSub, Int.reduceMul, Int.toNat_natCast, reduceCtorEq, decide_true, decide_false, IntWalk.i64_in, IntWalk.u64_in, IntWalk.u8_in, hs0, hsn]
  refine WP_loop (fun m a o nx => ∃ (i : Nat) (s' : Int), i ≤ w.length ∧ m = w.length - i ∧ 0 ≤ s' ∧ s' < (n : Int) ∧ goD N s w = goD N s' (w.drop i) ∧ a 1 = .int .i64 s' ∧ a 2 = slI w ∧ a 3 = .ptr (0, 3) (0, 3) 0 ∧ a 7 = .int .i64 i ∧ o (0, 3) = some (.row ⟨25, 1, (0, 3), false, true, [.sl n (cI N), slB A]⟩)) w.length (by omega) ⟨0, s, by omega, by omega, by omega, by omega, rfl, by simp (disch := omega) only [go_sem, ↓IntWalk.iteOmega, IntWalk.toNatUp, Nat.reduceEqDiff, Nat.reduceAdd, Nat.reduceMul, Nat.reduceSub, Nat.reduceLT, Nat.reduceLeDiff, Int.reduceToNat, Int.reduceLT, Int.reduceLE, Int.reduceEq, Int.reduceAdd, Int.reduceSub, Int.reduceMul, Int.toNat_natCast, reduceCtorEq, decide_true, decide_false, IntWalk.i64_in, IntWalk.u64_in, IntWalk.u8_in], by simp (disch := omega) only [go_sem, ↓IntWalk.iteOmega, IntWalk.toNatUp, Nat.reduceEqDiff, Nat.reduceAdd, Nat.reduceMul, Nat.reduceSub, Nat.reduceLT, Nat.reduceLeDiff, Int.reduceToNat, Int.reduceLT, Int.reduceLE, Int.reduceEq, Int.reduceAdd, Int.reduceSub, Int.reduceMul, Int.toNat_natCast, reduceCtorEq, decide_true, decide_false, IntWalk.i64_in, IntWalk.u64_in, IntWalk.u8_in], by simp (disch := omega) only [go_sem, ↓IntWalk.iteOmega, IntWalk.toNatUp, Nat.reduceEqDiff, Nat.reduceAdd, Nat.reduceMul, Nat.reduceSub, Nat.reduceLT, Nat.reduceLeDiff, Int.reduceToNat, Int.reduceLT, Int.reduceLE, Int.reduceEq, Int.reduceAdd, Int.reduceSub, Int.reduceMul, Int.toNat_natCast, reduceCtorEq, decide_true, decide_false, IntWalk.i64_in, IntWalk.u64_in, IntWalk.u8_in], by simp (disch := omega) only [go_sem, ↓IntWalk.iteOmega, IntWalk.toNatUp, Nat.reduceEqDiff, Nat.reduceAdd, Nat.reduceMul, Nat.reduceSub, Nat.reduceLT, Nat.reduceLeDiff, Int.reduceToNat, Int.reduceLT, Int.reduceLE, Int.reduceEq, Int.reduceAdd, Int.reduceSub, Int.reduceMul, Int.toNat_natCast, reduceCtorEq, decide_true, decide_false, IntWalk.i64_in, IntWalk.u64_in, IntWalk.u8_in], by simp [upd_app]⟩ ?_
  rintro m a o nx ⟨i, s', hi, rfl, hs1, hs2, hgo, h1, h2, h3, h7, o3⟩
  by_cases hlt : i < w.length
  · have hg := cI_get (s := 1) hlt
    rw [go_drop hlt] at hgo
    obtain ⟨x, hx⟩ : ∃ x, x = w.getD i 0 := ⟨_, rfl⟩
    rw [← hx] at hg hgo
    by_cases hx0 : x < 0
    · rw [if_pos (.inl hx0)] at hgo
      simp (disch := omega) only [go_sem, ↓IntWalk.iteOmega, IntWalk.toNatUp, Nat.reduceEqDiff, Nat.reduceAdd, Nat.reduceMul, Nat.reduceSub, Nat.reduceLT, Nat.reduceLeDiff, Int.reduceToNat, Int.reduceLT, Int.reduceLE, Int.reduceEq, Int.reduceAdd, Int.reduceSub, Int.reduceMul, Int.toNat_natCast, reduceCtorEq, decide_true, decide_false, IntWalk.i64_in, IntWalk.u64_in, IntWalk.u8_in, h1, h2, h3, h7, o3, hg, hx0]
      rw [hgo]
    · by_cases hx5 : 5 ≤ x
      · rw [if_pos (.inr hx5)] at hgo
        simp (disch := omega) only [go_sem, ↓IntWalk.iteOmega, IntWalk.toNatUp, Nat.reduceEqDiff, Nat.reduceAdd, Nat.reduceMul, Nat.reduceSub, Nat.reduceLT, Nat.reduceLeDiff, Int.reduceToNat, Int.reduceLT, Int.reduceLE, Int.reduceEq, Int.reduceAdd, Int.reduceSub, Int.reduceMul, Int.toNat_natCast, reduceCtorEq, decide_true, decide_false, IntWalk.i64_in, IntWalk.u64_in, IntWalk.u8_in, h1, h2, h3, h7, o3, hg, hx0, hx5]
        rw [hgo]
      · rw [if_neg (by omega)] at hgo
        have hk : s'.toNat * 5 + x.toNat < N.length := by omega
        have hat : take1 false 1 (((cI N).drop (s'.toNat * 5)).drop x.toNat) = some (.int .i64 (N.getD (s'.toNat * 5 + x.toNat) 0)) := by
          rw [List.drop_drop]; exact cI_get hk
        have hin := hw.get (k := s'.toNat * 5 + x.toNat) (by omega)
        simp (disch := omega) only [go_sem, ↓IntWalk.iteOmega, IntWalk.toNatUp, Nat.reduceEqDiff, Nat.reduceAdd, Nat.reduceMul, Nat.reduceSub, Nat.reduceLT, Nat.reduceLeDiff, Int.reduceToNat, Int.reduceLT, Int.reduceLE, Int.reduceEq, Int.reduceAdd, Int.reduceSub, Int.reduceMul, Int.toNat_natCast, reduceCtorEq, decide_true, decide_false, IntWalk.i64_in, IntWalk.u64_in, IntWalk.u8_in, h1, h2, h3, h7, o3, hg, hx0, hx5, hat]
        exact ⟨_, by omega, i + 1, _, by omega, rfl, hin.1, hin.2, hgo, rfl, rfl⟩
  · rw [List.drop_of_length_le (by omega), goD] at hgo
    simp (disch := omega) only [go_sem, ↓IntWalk.iteOmega, IntWalk.toNatUp, Nat.reduceEqDiff, Nat.reduceAdd, Nat.reduceMul, Nat.reduceSub, Nat.reduceLT, Nat.reduceLeDiff, Int.reduceToNat, Int.reduceLT, Int.reduceLE, Int.reduceEq, Int.reduceAdd, Int.reduceSub, Int.reduceMul, Int.toNat_natCast, reduceCtorEq, decide_true, decide_false, IntWalk.i64_in, IntWalk.u64_in, IntWalk.u8_in, h1, h2, h3, h7, o3]
    rw [hgo]
end Go.Proofs.YtbapebepmbikhaaDoor.A
/- Machines of one way: Run, Check. -/
namespace Go.Proofs.YtbapebepmbikhaaDoor.A
open Go
set_option maxRecDepth 20000
def RGoD (args : List AV) (r : AV) : Prop := ∃ (n : Nat) (N : List Int) (A : List Bool) (s : Int) (w : List Int), WfD n N A ∧ w.length ≤ 1000000 ∧ args = [dfaV n N A, .int .i64 s, slI w] ∧ r = .int .i64 (goFull n N s w)
theorem RGoD_fn : Fun1 RGoD := by
  rintro args r r' ⟨n, N, A, s, w, _, _, rfl, rfl⟩ ⟨n', N', A', s', w', _, _, h, rfl⟩
  simp only [List.cons.injEq, AV.int.injEq, true_and, and_true] at h
  obtain ⟨h1, h2, h3⟩ := dfaV_inj h.1
  rw [h1, h2, h.2.1, slI_inj h.2.2]
theorem RGoD_dfa (args r) (h : RGoD args r) : Ok Tryd.prog 19 args r := by obtain ⟨n, N, A, s, w, h1, h2, rfl, rfl⟩ := h; exact dgo_ok h1 s w h2
theorem RGoD_ref (args r) (h : RGoD args r) : Ok Tryd.prog 20 args r := by obtain ⟨n, N, A, s, w, h1, h2, rfl, rfl⟩ := h; exact rgo_ok h1 s w h2
noncomputable def XGoD : FuncId → List AV → Option AV := tabLook [(19, tRel RGoD), (20, tRel RGoD)]
theorem XGoD_ok : CPSound Tryd.prog XGoD := tab_cons (tab_cons (tab_nil _) (tRel_ok RGoD_ref)) (tRel_ok RGoD_dfa)
theorem XGoD_dfa {n : Nat} {N : List Int} {A : List Bool} (h : WfD n N A) (s : Int) (w : List Int) (hl : w.length ≤ 1000000) : XGoD 19 [dfaV n N A, .int .i64 s, slI w] = some (.int .i64 (goFull n N s w)) := tRel_eq (R := RGoD) RGoD_fn ⟨_, _, _, _, _, h, hl, rfl, rfl⟩
theorem XGoD_ref {n : Nat} {N : List Int} {A : List Bool} (h : WfD n N A) (s : Int) (w : List Int) (hl : w.length ≤ 1000000) : XGoD 20 [dfaV n N A, .int .i64 s, slI w] = some (.int .i64 (goFull n N s w)) := tRel_eq (R := RGoD) RGoD_fn ⟨_, _, _, _, _, h, hl, rfl, rfl⟩
theorem goFull_in {n N A} (h : WfD n N A) (s : Int) (w : List Int) : -1 ≤ goFull n N s w ∧ goFull n N s w < (n : Int) := by
  unfold goFull
  split
  · rename_i hs; exact goD_in h w s hs.1 hs.2
  · omega
theorem lookRunD0 : lookedAt (EX md0 XGoD) (fun _ => none) 2 Tryd.f21 = true := by kernel_rfl
theorem drun0_ok {n : Nat} {N : List Int} {A : List Bool} (hw : WfD n N A) (w : List Int) (hl : w.length ≤ 1000000) : Ok Tryd.prog 21 [dfaV n N A, slI w] (.bool (runD n N A w)) := by
  refine ok_of_WP (E := EX md0 XGoD) (cr := noR) XGoD_ok (noR_ok _) mixed (k := 0) Tryd.func21 lookRunD0 rfl ?_
  have h1 := XGoD_dfa hw 0 w hl
  have h2 := XGoD_ref hw 0 w hl
  have hin := goFull_in hw 0 w
  have ha := hw.a
  simp only [Tryd.f21, Option.getD_some]
  unfold runD
  obtain ⟨g, hg⟩ : ∃ g, g = goFull n N 0 w := ⟨_, rfl⟩
  rw [← hg] at h1 h2 hin ⊢
  by_cases h0 : 0 ≤ g
  · rw [if_pos h0]
    have hat := cB_get (l := A) (i := g.toNat) (s := 1) (by omega)
    simp (disch := omega) only [go_sem, ↓IntWalk.iteOmega, IntWalk.toNatUp, Nat.reduceEqDiff, Nat.reduceAdd, Nat.reduceMul, Nat.reduceSub, Nat.reduceLT, Nat.reduceLeDiff, Int.reduceToNat, Int.reduceLT, Int.reduceLE, Int.reduceEq, Int.reduceAdd, Int.reduceSub, Int.reduceMul, Int.toNat_natCast, reduceCtorEq, decide_true, decide_false, IntWalk.i64_in, IntWalk.u64_in, IntWalk.u8_in, h1, h2, h0, hat]
  · rw [if_neg h0]
    simp (disch := omega) only [go_sem, ↓IntWalk.iteOmega, IntWalk.toNatUp, Nat.reduceEqDiff, Nat.reduceAdd, Nat.reduceMul, Nat.reduceSub, Nat.reduceLT, Nat.reduceLeDiff, Int.reduceToNat, Int.reduceLT, Int.reduceLE, Int.reduceEq, Int.reduceAdd, Int.reduceSub, Int.reduceMul, Int.toNat_natCast, reduceCtorEq, decide_true, decide_false, IntWalk.i64_in, IntWalk.u64_in, IntWalk.u8_in, h1, h2, h0]
theorem lookRunD1 : lookedAt (EX md0 XGoD) (fun _ => none) 2 Tryd.f22 = true := by kernel_rfl
theorem drun1_ok {n : Nat} {N : List Int} {A : List Bool} (hw : WfD n N A) (w : List Int) (hl : w.length ≤ 1000000) : Ok Tryd.prog 22 [dfaV n N A, slI w] (.bool (runD n N A w)) := by
  refine ok_of_WP (E := EX md0 XGoD) (cr := noR) XGoD_ok (noR_ok _) mixed (k := 0) Tryd.func22 lookRunD1 rfl ?_
  have h1 := XGoD_dfa hw 0 w hl
  have h2 := XGoD_ref hw 0 w hl
  have hin := goFull_in hw 0 w
  have ha := hw.a
  simp only [Tryd.f22, Option.getD_some]
  unfold runD
  obtain ⟨g, hg⟩ : ∃ g, g = goFull n N 0 w := ⟨_, rfl⟩
  rw [← hg] at h1 h2 hin ⊢
  by_cases h0 : 0 ≤ g
  · rw [if_pos h0]
    have hat := cB_get (l := A) (i := g.toNat) (s := 1) (by omega)
    simp (disch := omega) only [go_sem, ↓IntWalk.iteOmega, IntWalk.toNatUp, Nat.reduceEqDiff, Nat.reduceAdd, Nat.reduceMul, Nat.reduceSub, Nat.reduceLT, Nat.reduceLeDiff, Int.reduceToNat, Int.reduceLT, Int.reduceLE, Int.reduceEq, Int.reduceAdd, Int.reduceSub, Int.reduceMul, Int.toNat_natCast, reduceCtorEq, decide_true, decide_false, IntWalk.i64_in, IntWalk.u64_in, IntWalk.u8_in, h1, h2, h0, hat]
  · rw [if_neg h0]
    simp (disch := omega) only [go_sem, ↓IntWalk.iteOmega, IntWalk.toNatUp, Nat.reduceEqDiff, Nat.reduceAdd, Nat.reduceMul, Nat.reduceSub, Nat.reduceLT, Nat.reduceLeDiff, Int.reduceToNat, Int.reduceLT, Int.reduceLE, Int.reduceEq, Int.reduceAdd, Int.reduceSub, Int.reduceMul, Int.toNat_natCast, reduceCtorEq, decide_true, decide_false, IntWalk.i64_in, IntWalk.u64_in, IntWalk.u8_in, h1, h2, h0]
def chkD (n : Nat) (N : List Int) (A : List Bool) : Bool := decide (1 ≤ n ∧ n ≤ 2000 ∧ A.length = n) && N.all (fun x => decide (0 ≤ x ∧ x < (n : Int)))
theorem all_not {p : Int → Bool} {l : List Int} {k : Nat} (hk : k < l.length) (h : p (l.getD k 0) = false) : l.all p = false := by
  rw [← Bool.not_eq_true, List.all_eq_true]
  intro hh
  have := hh (l.getD k 0) (by rw [List.getD_eq_getElem?_getD, List.getElem?_eq_getElem hk]; exact List.getElem_mem ..)
  rw [h] at this; cases this
theorem all_all {p : Int → Bool} {l : List Int} (h : ∀ k, k < l.length → p (l.getD k 0) = true) : l.all p = true := by
  rw [List.all_eq_true]
  intro x hx
  obtain ⟨k, hk, rfl⟩ := List.getElem_of_mem hx
  have := h k hk
  rw [List.getD_eq_getElem?_getD, List.getElem?_eq_getElem hk] at this
  exact this
theorem lookChkR (X) : lookedAt (EX md0 X) (fun _ => none) 1 Tryd.f16 = true := by kernel_rfl
theorem lookChkD : lookedAt (EX md0 XStD) (fun _ => none) 1 Tryd.f15 = true := by kernel_rfl
theorem rchk_ok (n : Nat) (N : List Int) (A : List Bool) (hN : N.length = 5 * n) : Ok Tryd.prog 16 [dfaV n N A] (.bool (chkD n N A)) := by
  refine ok_of_WP (E := EX md0 (fun _ _ => none)) (cr := noR) (tab_nil _) (noR_ok _) mixed (k := 2002) Tryd.func16 (lookChkR _) rfl ?_
  simp only [Tryd.f16, Option.getD_some]
  unfold chkD
  by_cases h1 : (n : Int) < 1
  · rw [decide_eq_false (by omega), Bool.false_and]
    simp (disch := omega) only [go_sem, ↓IntWalk.iteOmega, IntWalk.toNatUp, Nat.reduceEqDiff, Nat.reduceAdd, Nat.reduceMul, Nat.reduceSub, Nat.reduceLT, Nat.reduceLeDiff, Int.reduceToNat, Int.reduceLT, Int.reduceLE, Int.reduceEq, Int.reduceAdd, Int.reduceSub, Int.reduceMul, Int.toNat_natCast, reduceCtorEq, decide_true, decide_false, IntWalk.i64_in, IntWalk.u64_in, IntWalk.u8_in, h1]
  by_cases h2 : (2000 : Int) < n
  · rw [decide_eq_false (by omega), Bool.false_and]
    simp (disch := omega) only [go_sem, ↓IntWalk.iteOmega, IntWalk.toNatUp, Nat.reduceEqDiff, Nat.reduceAdd, Nat.reduceMul, Nat.reduceSub, Nat.reduceLT, Nat.reduceLeDiff, Int.reduceToNat, Int.reduceLT, Int.reduceLE, Int.reduceEq, Int.reduceAdd, Int.reduceSub, Int.reduceMul, Int.toNat_natCast, reduceCtorEq, decide_true, decide_false, IntWalk.i64_in, IntWalk.u64_in, IntWalk.u8_in, h1, h2]
  by_cases h3' : ¬ (A.length : Int) = n
  · have h3 := h3'
    rw [decide_eq_false (by omega), Bool.false_and]
    simp (disch := omega) only [go_sem, ↓IntWalk.iteOmega, IntWalk.toNatUp, Nat.reduceEqDiff, Nat.reduceAdd, Nat.reduceMul, Nat.reduceSub, Nat.reduceLT, Nat.reduceLeDiff, Int.reduceToNat, Int.reduceLT, Int.reduceLE, Int.reduceEq, Int.reduceAdd, Int.reduceSub, Int.reduceMul, Int.toNat_natCast, reduceCtorEq, decide_true, decide_false, IntWalk.i64_in, IntWalk.u64_in, IntWalk.u8_in, h1, h2, h3]
  have h3 : (A.length : Int) = n := Decidable.not_not.1 h3'
  rw [decide_eq_true (by omega), Bool.true_and]
  simp (disch := omega) only [go_sem, ↓IntWalk.iteOmega, IntWalk.toNatUp, Nat.reduceEqDiff, Nat.reduceAdd, Nat.reduceMul, Nat.reduceSub, Nat.reduceLT, Nat.reduceLeDiff, Int.reduceToNat, Int.reduceLT, Int.reduceLE, Int.reduceEq, Int.reduceAdd, Int.reduceSub, Int.reduceMul, Int.toNat_natCast, reduceCtorEq, decide_true, decide_false, IntWalk.i64_in, IntWalk.u64_in, IntWalk.u8_in, h1, h2, h3]
  refine WP_loop (fun m a o nx => ∃ i : Nat, i ≤ n ∧ m = n - i ∧ (∀ k, k < i * 5 → decide (0 ≤ N.getD k 0 ∧ N.getD k 0 < (n : Int)) = true) ∧ a 1 = .ptr (0, 1) (0, 1) 0 ∧ a 3 = .int .i64 n ∧ a 4 = .int .i64 i ∧ o (0, 1) = some (.row ⟨25, 1, (0, 1), false, true, [.sl n (cI N), slB A]⟩)) n (by omega) ⟨0, by omega, by omega, fun k hk => by omega, by simp (disch := omega) only [go_sem, ↓IntWalk.iteOmega, IntWalk.toNatUp, Nat.reduceEqDiff, Nat.reduceAdd, Nat.reduceMul, Nat.reduceSub, Nat.reduceLT, Nat.reduceLeDiff, Int.reduceToNat, Int.reduceLT, Int.reduceLE, Int.reduceEq, Int.reduceAdd, Int.reduceSub, Int.reduceMul, Int.toNat_natCast, reduceCtorEq, decide_true, decide_false, IntWalk.i64_in, IntWalk.u64_in, IntWalk.u8_in], by simp (disch := omega) only [go_sem, ↓IntWalk.iteOmega, IntWalk.toNatUp, Nat.reduceEqDiff, Nat.reduceAdd, Nat.reduceMul, Nat.reduceSub, Nat.reduceLT, Nat.reduceLeDiff, Int.reduceToNat, Int.reduceLT, Int.reduceLE, Int.reduceEq, Int.reduceAdd, Int.reduceSub, Int.reduceMul, Int.toNat_natCast, reduceCtorEq, decide_true, decide_false, IntWalk.i64_in, IntWalk.u64_in, IntWalk.u8_in], by simp (disch := omega) only [go_sem, ↓IntWalk.iteOmega, IntWalk.toNatUp, Nat.reduceEqDiff, Nat.reduceAdd, Nat.reduceMul, Nat.reduceSub, Nat.reduceLT, Nat.reduceLeDiff, Int.reduceToNat, Int.reduceLT, Int.reduceLE, Int.reduceEq, Int.reduceAdd, Int.reduceSub, Int.reduceMul, Int.toNat_natCast, reduceCtorEq, decide_true, decide_false, IntWalk.i64_in, IntWalk.u64_in, IntWalk.u8_in], by simp [upd_app]⟩ ?_
  rintro m a o nx ⟨i, hi, rfl, hall, ha1, ha3, ha4, o1⟩
  by_cases hlt : i < n
  · simp (disch := omega) only [go_sem, ↓IntWalk.iteOmega, IntWalk.toNatUp, Nat.reduceEqDiff, Nat.reduceAdd, Nat.reduceMul, Nat.reduceSub, Nat.reduceLT, Nat.reduceLeDiff, Int.reduceToNat, Int.reduceLT, Int.reduceLE, Int.reduceEq, Int.reduceAdd, Int.reduceSub, Int.reduceMul, Int.toNat_natCast, reduceCtorEq, decide_true, decide_false, IntWalk.i64_in, IntWalk.u64_in, IntWalk.u8_in, ha1, ha3, ha4, o1]
    refine WP_loop (fun m' a o' nx => ∃ j : Nat, j ≤ 5 ∧ m' = 5 - j ∧ (∀ k, k < i * 5 + j → decide (0 ≤ N.getD k 0 ∧ N.getD k 0 < (n : Int)) = true) ∧ a 1 = .ptr (0, 1) (0, 1) 0 ∧ a 3 = .int .i64 n ∧ a 4 = .int .i64 i ∧ a 5 = .int .i64 j ∧ o' = o) 5 (by omega) ⟨0, by omega, by omega, hall, by simp (disch := omega) only [go_sem, ↓IntWalk.iteOmega, IntWalk.toNatUp, Nat.reduceEqDiff, Nat.reduceAdd, Nat.reduceMul, Nat.reduceSub, Nat.reduceLT, Nat.reduceLeDiff, Int.reduceToNat, Int.reduceLT, Int.reduceLE, Int.reduceEq, Int.reduceAdd, Int.reduceSub, Int.reduceMul, Int.toNat_natCast, reduceCtorEq, decide_true, decide_false, IntWalk.i64_in, IntWalk.u64_in, IntWalk.u8_in, ha1], by simp (disch := omega) only [go_sem, ↓IntWalk.iteOmega, IntWalk.toNatUp, Nat.reduceEqDiff, Nat.reduceAdd, Nat.reduceMul, Nat.reduceSub, Nat.reduceLT, Nat.reduceLeDiff, Int.reduceToNat, Int.reduceLT, Int.reduceLE, Int.reduceEq, Int.reduceAdd, Int.reduceSub, Int.reduceMul, Int.toNat_natCast, reduceCtorEq, decide_true, decide_false, IntWalk.i64_in, IntWalk.u64_in, IntWalk.u8_in, ha3], by simp (disch := omega) only [go_sem, ↓IntWalk.iteOmega, IntWalk.toNatUp, Nat.reduceEqDiff, Nat.reduceAdd, Nat.reduceMul, Nat.reduceSub, Nat.reduceLT, Nat.reduceLeDiff, Int.reduceToNat, Int.reduceLT, Int.reduceLE, Int.reduceEq, Int.reduceAdd, Int.reduceSub, Int.reduceMul, Int.toNat_natCast, reduceCtorEq, decide_true, decide_false, IntWalk.i64_in, IntWalk.u64_in, IntWalk.u8_in, ha4], by simp (disch := omega) only [go_sem, ↓IntWalk.iteOmega, IntWalk.toNatUp, Nat.reduceEqDiff, Nat.reduceAdd, Nat.reduceMul, Nat.reduceSub, Nat.reduceLT, Nat.reduceLeDiff, Int.reduceToNat, Int.reduceLT, Int.reduceLE, Int.reduceEq, Int.reduceAdd, Int.reduceSub, Int.reduceMul, Int.toNat_natCast, reduceCtorEq, decide_true, decide_false, IntWalk.i64_in, IntWalk.u64_in, IntWalk.u8_in], rfl⟩ ?_
    rintro m' a o' nx ⟨j, hj, rfl, hall, ha1, ha3, ha4, ha5, rfl⟩
    by_cases hj5 : j < 5
    · have hk : i * 5 + j < N.length := by omega
      have hat : take1 false 1 (((cI N).drop (i * 5)).drop j) = some (.int .i64 (N.getD (i * 5 + j) 0)) := by
        rw [List.drop_drop]; exact cI_get hk
      obtain ⟨x, hx⟩ : ∃ x, x = N.getD (i * 5 + j) 0 := ⟨_, rfl⟩
      rw [← hx] at hat
      by_cases hx0 : x < 0
      · rw [all_not hk (by rw [← hx, decide_eq_false_iff_not]; omega)]
        simp (disch := omega) only [go_sem, ↓IntWalk.iteOmega, IntWalk.toNatUp, Nat.reduceEqDiff, Nat.reduceAdd, Nat.reduceMul, Nat.reduceSub, Nat.reduceLT, Nat.reduceLeDiff, Int.reduceToNat, Int.reduceLT, Int.reduceLE, Int.reduceEq, Int.reduceAdd, Int.reduceSub, Int.reduceMul, Int.toNat_natCast, reduceCtorEq, decide_true, decide_false, IntWalk.i64_in, IntWalk.u64_in, IntWalk.u8_in, ha1, ha3, ha4, ha5, o1, hat, hx0]
      · by_cases hxn : (n : Int) ≤ x
        · rw [all_not hk (by rw [← hx, decide_eq_false_iff_not]; omega)]
          simp (disch := omega) only [go_sem, ↓IntWalk.iteOmega, IntWalk.toNatUp, Nat.reduceEqDiff, Nat.reduceAdd, Nat.reduceMul, Nat.reduceSub, Nat.reduceLT, Nat.reduceLeDiff, Int.reduceToNat, Int.reduceLT, Int.reduceLE, Int.reduceEq, Int.reduceAdd, Int.reduceSub, Int.reduceMul, Int.toNat_natCast, reduceCtorEq, decide_true, decide_false, IntWalk.i64_in, IntWalk.u64_in, IntWalk.u8_in, ha1, ha3, ha4, ha5, o1, hat, hx0, hxn]
        · simp (disch := omega) only [go_sem, ↓IntWalk.iteOmega, IntWalk.toNatUp, Nat.reduceEqDiff, Nat.reduceAdd, Nat.reduceMul, Nat.reduceSub, Nat.reduceLT, Nat.reduceLeDiff, Int.reduceToNat, Int.reduceLT, Int.reduceLE, Int.reduceEq, Int.reduceAdd, Int.reduceSub, Int.reduceMul, Int.toNat_natCast, reduceCtorEq, decide_true, decide_false, IntWalk.i64_in, IntWalk.u64_in, IntWalk.u8_in, ha1, ha3, ha4, ha5, o1, hat, hx0, hxn]
          refine ⟨_, by omega, j + 1, by omega, rfl, fun k hk' => ?_, rfl⟩
          by_cases hke : k = i * 5 + j
          · rw [hke, ← hx, decide_eq_true_eq]; omega
          · exact hall k (by omega)
    · have hj' : j = 5 := by omega
      simp (disch := omega) only [go_sem, ↓IntWalk.iteOmega, IntWalk.toNatUp, Nat.reduceEqDiff, Nat.reduceAdd, Nat.reduceMul, Nat.reduceSub, Nat.reduceLT, Nat.reduceLeDiff, Int.reduceToNat, Int.reduceLT, Int.reduceLE, Int.reduceEq, Int.reduceAdd, Int.reduceSub, Int.reduceMul, Int.toNat_natCast, reduceCtorEq, decide_true, decide_false, IntWalk.i64_in, IntWalk.u64_in, IntWalk.u8_in, ha1, ha3, ha4, ha5, o1]
      exact ⟨_, by omega, i + 1, by omega, rfl, fun k hk => hall k (by omega), rfl⟩
  · rw [all_all (fun k hk => hall k (by omega))]
    simp (disch := omega) only [go_sem, ↓IntWalk.iteOmega, IntWalk.toNatUp, Nat.reduceEqDiff, Nat.reduceAdd, Nat.reduceMul, Nat.reduceSub, Nat.reduceLT, Nat.reduceLeDiff, Int.reduceToNat, Int.reduceLT, Int.reduceLE, Int.reduceEq, Int.reduceAdd, Int.reduceSub, Int.reduceMul, Int.toNat_natCast, reduceCtorEq, decide_true, decide_false, IntWalk.i64_in, IntWalk.u64_in, IntWalk.u8_in, ha1, ha3, ha4, o1]
theorem dchk_ok (n : Nat) (N : List Int) (A : List Bool) (hN : N.length = 5 * n) : Ok Tryd.prog 15 [dfaV n N A] (.bool (chkD n N A)) := by
  refine ok_of_WP (E := EX md0 XStD) (cr := noR) XStD_ok (noR_ok _) mixed (k := 2002) Tryd.func15 lookChkD rfl ?_
  simp only [Tryd.f15, Option.getD_some]
  unfold chkD
  have hst := XStD_eq n N A
  by_cases h1 : (n : Int) < 1
  · rw [decide_eq_false (by omega), Bool.false_and]
    simp (disch := omega) only [go_sem, ↓IntWalk.iteOmega, IntWalk.toNatUp, Nat.reduceEqDiff, Nat.reduceAdd, Nat.reduceMul, Nat.reduceSub, Nat.reduceLT, Nat.reduceLeDiff, Int.reduceToNat, Int.reduceLT, Int.reduceLE, Int.reduceEq, Int.reduceAdd, Int.reduceSub, Int.reduceMul, Int.toNat_natCast, reduceCtorEq, decide_true, decide_false, IntWalk.i64_in, IntWalk.u64_in, IntWalk.u8_in, h1]
  by_cases h2 : (2000 : Int) < n
  · rw [decide_eq_false (by omega), Bool.false_and]
    simp (disch := omega) only [go_sem, ↓IntWalk.iteOmega, IntWalk.toNatUp, Nat.reduceEqDiff, Nat.reduceAdd, Nat.reduceMul, Nat.reduceSub, Nat.reduceLT, Nat.reduceLeDiff, Int.reduceToNat, Int.reduceLT, Int.reduceLE, Int.reduceEq, Int.reduceAdd, Int.reduceSub, Int.reduceMul, Int.toNat_natCast, reduceCtorEq, decide_true, decide_false, IntWalk.i64_in, IntWalk.u64_in, IntWalk.u8_in, h1, h2]
  by_cases h3' : ¬ (A.length : Int) = n
  · have h3 := h3'
    rw [decide_eq_false (by omega), Bool.false_and]
    simp (disch := omega) only [go_sem, ↓IntWalk.iteOmega, IntWalk.toNatUp, Nat.reduceEqDiff, Nat.reduceAdd, Nat.reduceMul, Nat.reduceSub, Nat.reduceLT, Nat.reduceLeDiff, Int.reduceToNat, Int.reduceLT, Int.reduceLE, Int.reduceEq, Int.reduceAdd, Int.reduceSub, Int.reduceMul, Int.toNat_natCast, reduceCtorEq, decide_true, decide_false, IntWalk.i64_in, IntWalk.u64_in, IntWalk.u8_in, h1, h2, h3]
  have h3 : (A.length : Int) = n := Decidable.not_not.1 h3'
  rw [decide_eq_true (by omega), Bool.true_and]
  simp (disch := omega) only [go_sem, ↓IntWalk.iteOmega, IntWalk.toNatUp, Nat.reduceEqDiff, Nat.reduceAdd, Nat.reduceMul, Nat.reduceSub, Nat.reduceLT, Nat.reduceLeDiff, Int.reduceToNat, Int.reduceLT, Int.reduceLE, Int.reduceEq, Int.reduceAdd, Int.reduceSub, Int.reduceMul, Int.toNat_natCast, reduceCtorEq, decide_true, decide_false, IntWalk.i64_in, IntWalk.u64_in, IntWalk.u8_in, h1, h2, h3]
  refine WP_loop (fun m a o nx => ∃ i : Nat, i ≤ n ∧ m = n - i ∧ 1 ≤ nx ∧ (∀ k, k < i * 5 → decide (0 ≤ N.getD k 0 ∧ N.getD k 0 < (n : Int)) = true) ∧ a 1 = .ptr (0, 1) (0, 1) 0 ∧ a 3 = .fn (.func 32) [] [] ∧ a 28 = .sl n (cI N) ∧ a 29 = .int .i64 n ∧ a 30 = .int .i64 i ∧ o (0, 1) = some (.row ⟨25, 1, (0, 1), false, true, [.sl n (cI N), slB A]⟩)) n (by omega) ⟨0, by omega, by omega, by omega, fun k hk => by omega, by simp (disch := omega) only [go_sem, ↓IntWalk.iteOmega, IntWalk.toNatUp, Nat.reduceEqDiff, Nat.reduceAdd, Nat.reduceMul, Nat.reduceSub, Nat.reduceLT, Nat.reduceLeDiff, Int.reduceToNat, Int.reduceLT, Int.reduceLE, Int.reduceEq, Int.reduceAdd, Int.reduceSub, Int.reduceMul, Int.toNat_natCast, reduceCtorEq, decide_true, decide_false, IntWalk.i64_in, IntWalk.u64_in, IntWalk.u8_in], by simp (disch := omega) only [go_sem, ↓IntWalk.iteOmega, IntWalk.toNatUp, Nat.reduceEqDiff, Nat.reduceAdd, Nat.reduceMul, Nat.reduceSub, Nat.reduceLT, Nat.reduceLeDiff, Int.reduceToNat, Int.reduceLT, Int.reduceLE, Int.reduceEq, Int.reduceAdd, Int.reduceSub, Int.reduceMul, Int.toNat_natCast, reduceCtorEq, decide_true, decide_false, IntWalk.i64_in, IntWalk.u64_in, IntWalk.u8_in], by simp (disch := omega) only [go_sem, ↓IntWalk.iteOmega, IntWalk.toNatUp, Nat.reduceEqDiff, Nat.reduceAdd, Nat.reduceMul, Nat.reduceSub, Nat.reduceLT, Nat.reduceLeDiff, Int.reduceToNat, Int.reduceLT, Int.reduceLE, Int.reduceEq, Int.reduceAdd, Int.reduceSub, Int.reduceMul, Int.toNat_natCast, reduceCtorEq, decide_true, decide_false, IntWalk.i64_in, IntWalk.u64_in, IntWalk.u8_in], by simp (disch := omega) only [go_sem, ↓IntWalk.iteOmega, IntWalk.toNatUp, Nat.reduceEqDiff, Nat.reduceAdd, Nat.reduceMul, Nat.reduceSub, Nat.reduceLT, Nat.reduceLeDiff, Int.reduceToNat, Int.reduceLT, Int.reduceLE, Int.reduceEq, Int.reduceAdd, Int.reduceSub, Int.reduceMul, Int.toNat_natCast, reduceCtorEq, decide_true, decide_false, IntWalk.i64_in, IntWalk.u64_in, IntWalk.u8_in], by simp (disch := omega) only [go_sem, ↓IntWalk.iteOmega, IntWalk.toNatUp, Nat.reduceEqDiff, Nat.reduceAdd, Nat.reduceMul, Nat.reduceSub, Nat.reduceLT, Nat.reduceLeDiff, Int.reduceToNat, Int.reduceLT, Int.reduceLE, Int.reduceEq, Int.reduceAdd, Int.reduceSub, Int.reduceMul, Int.toNat_natCast, reduceCtorEq, decide_true, decide_false, IntWalk.i64_in, IntWalk.u64_in, IntWalk.u8_in], by simp [upd_app]⟩ ?_
  rintro m a o nx ⟨i, hi, rfl, hnx, hall, ha1, ha3, ha28, ha29, ha30, o1⟩
  by_cases hlt : i < n
  · have hl5 : ((cI N).drop (i * 5)).length = N.length - i * 5 := by rw [List.length_drop, cI_length]
    have hrow : ∀ j, j < 5 → take1 false 1 ((((cI N).drop (i * 5)).take 5).drop j) = some (.int .i64 (N.getD (i * 5 + j) 0)) := fun j hj => by
      rw [List.drop_take, List.drop_drop]
      have hk : i * 5 + j < N.length := by omega
      have := cI_get (s := 1) hk
      cases hd : (cI N).drop (i * 5 + j) with
      | nil => rw [hd] at this; cases this
      | cons y l =>
        rw [hd] at this
        obtain ⟨d, hd'⟩ : ∃ d, 5 - j = d + 1 := ⟨4 - j, by omega⟩
        rw [hd']
        exact this
    have htl : (((cI N).drop (i * 5)).take 5).length = 5 := by rw [List.length_take, hl5]; omega
    have hok : (((cI N).drop (i * 5)).take 5).all cellOk = true := by rw [cI_drop, cI_take]; exact cI_ok _
    have htt : (((cI N).drop (i * 5)).take 5).take 5 = ((cI N).drop (i * 5)).take 5 := take_len htl
    obtain ⟨row, hrw⟩ : ∃ row, row = ((cI N).drop (i * 5)).take 5 := ⟨_, rfl⟩
    rw [← hrw] at hrow htl hok htt
    have hrw' := hrw.symm
    simp (disch := omega) only [go_sem, ↓IntWalk.iteOmega, IntWalk.toNatUp, Nat.reduceEqDiff, Nat.reduceAdd, Nat.reduceMul, Nat.reduceSub, Nat.reduceLT, Nat.reduceLeDiff, Int.reduceToNat, Int.reduceLT, Int.reduceLE, Int.reduceEq, Int.reduceAdd, Int.reduceSub, Int.reduceMul, Int.toNat_natCast, reduceCtorEq, decide_true, decide_false, IntWalk.i64_in, IntWalk.u64_in, IntWalk.u8_in, ha1, ha3, ha28, ha29, ha30, o1, hl5, hrw', htl, hok, htt]
    refine WP_loop (fun m' a o nx => ∃ j : Nat, j ≤ 5 ∧ m' = 5 - j ∧ 1 ≤ nx ∧ (∀ k, k < i * 5 + j → decide (0 ≤ N.getD k 0 ∧ N.getD k 0 < (n : Int)) = true) ∧ a 1 = .ptr (0, 1) (0, 1) 0 ∧ a 3 = .fn (.func 32) [] [] ∧ a 28 = .sl n (cI N) ∧ a 29 = .int .i64 n ∧ a 30 = .int .i64 i ∧ a 34 = .agg row ∧ a 35 = .int .i64 j ∧ o (0, 1) = some (.row ⟨25, 1, (0, 1), false, true, [.sl n (cI N), slB A]⟩)) 5 (by omega) ⟨0, by omega, by omega, by omega, hall, by simp (disch := omega) only [go_sem, ↓IntWalk.iteOmega, IntWalk.toNatUp, Nat.reduceEqDiff, Nat.reduceAdd, Nat.reduceMul, Nat.reduceSub, Nat.reduceLT, Nat.reduceLeDiff, Int.reduceToNat, Int.reduceLT, Int.reduceLE, Int.reduceEq, Int.reduceAdd, Int.reduceSub, Int.reduceMul, Int.toNat_natCast, reduceCtorEq, decide_true, decide_false, IntWalk.i64_in, IntWalk.u64_in, IntWalk.u8_in, ha1], by simp (disch := omega) only [go_sem, ↓IntWalk.iteOmega, IntWalk.toNatUp, Nat.reduceEqDiff, Nat.reduceAdd, Nat.reduceMul, Nat.reduceSub, Nat.reduceLT, Nat.reduceLeDiff, Int.reduceToNat, Int.reduceLT, Int.reduceLE, Int.reduceEq, Int.reduceAdd, Int.reduceSub, Int.reduceMul, Int.toNat_natCast, reduceCtorEq, decide_true, decide_false, IntWalk.i64_in, IntWalk.u64_in, IntWalk.u8_in, ha3], by simp (disch := omega) only [go_sem, ↓IntWalk.iteOmega, IntWalk.toNatUp, Nat.reduceEqDiff, Nat.reduceAdd, Nat.reduceMul, Nat.reduceSub, Nat.reduceLT, Nat.reduceLeDiff, Int.reduceToNat, Int.reduceLT, Int.reduceLE, Int.reduceEq, Int.reduceAdd, Int.reduceSub, Int.reduceMul, Int.toNat_natCast, reduceCtorEq, decide_true, decide_false, IntWalk.i64_in, IntWalk.u64_in, IntWalk.u8_in, ha28], by simp (disch := omega) only [go_sem, ↓IntWalk.iteOmega, IntWalk.toNatUp, Nat.reduceEqDiff, Nat.reduceAdd, Nat.reduceMul, Nat.reduceSub, Nat.reduceLT, Nat.reduceLeDiff, Int.reduceToNat, Int.reduceLT, Int.reduceLE, Int.reduceEq, Int.reduceAdd, Int.reduceSub, Int.reduceMul, Int.toNat_natCast, reduceCtorEq, decide_true, decide_false, IntWalk.i64_in, IntWalk.u64_in, IntWalk.u8_in, ha29], by simp (disch := omega) only [go_sem, ↓IntWalk.iteOmega, IntWalk.toNatUp, Nat.reduceEqDiff, Nat.reduceAdd, Nat.reduceMul, Nat.reduceSub, Nat.reduceLT, Nat.reduceLeDiff, Int.reduceToNat, Int.reduceLT, Int.reduceLE, Int.reduceEq, Int.reduceAdd, Int.reduceSub, Int.reduceMul, Int.toNat_natCast, reduceCtorEq, decide_true, decide_false, IntWalk.i64_in, IntWalk.u64_in, IntWalk.u8_in, ha30], by simp (disch := omega) only [go_sem, ↓IntWalk.iteOmega, IntWalk.toNatUp, Nat.reduceEqDiff, Nat.reduceAdd, Nat.reduceMul, Nat.reduceSub, Nat.reduceLT, Nat.reduceLeDiff, Int.reduceToNat, Int.reduceLT, Int.reduceLE, Int.reduceEq, Int.reduceAdd, Int.reduceSub, Int.reduceMul, Int.toNat_natCast, reduceCtorEq, decide_true, decide_false, IntWalk.i64_in, IntWalk.u64_in, IntWalk.u8_in], by simp (disch := omega) only [go_sem, ↓IntWalk.iteOmega, IntWalk.toNatUp, Nat.reduceEqDiff, Nat.reduceAdd, Nat.reduceMul, Nat.reduceSub, Nat.reduceLT, Nat.reduceLeDiff, Int.reduceToNat, Int.reduceLT, Int.reduceLE, Int.reduceEq, Int.reduceAdd, Int.reduceSub, Int.reduceMul, Int.toNat_natCast, reduceCtorEq, decide_true, decide_false, IntWalk.i64_in, IntWalk.u64_in, IntWalk.u8_in], by simp (disch := omega) [upd_fst, o1]⟩ ?_
    clear ha1 ha3 ha28 ha29 ha30 o1 hnx
    rintro m' a o nx ⟨j, hj, rfl, hnx, hall, ha1, ha3, ha28, ha29, ha30, ha34, ha35, o1⟩
    by_cases hj5 : j < 5
    · have hk : i * 5 + j < N.length := by omega
      have hat := hrow j hj5
      obtain ⟨x, hx⟩ : ∃ x, x = N.getD (i * 5 + j) 0 := ⟨_, rfl⟩
      rw [← hx] at hat
      have hsx := hst x
      by_cases hin : 0 ≤ x ∧ x < (n : Int)
      · rw [decide_eq_true hin] at hsx
        simp (disch := omega) only [go_sem, ↓IntWalk.iteOmega, IntWalk.toNatUp, Nat.reduceEqDiff, Nat.reduceAdd, Nat.reduceMul, Nat.reduceSub, Nat.reduceLT, Nat.reduceLeDiff, Int.reduceToNat, Int.reduceLT, Int.reduceLE, Int.reduceEq, Int.reduceAdd, Int.reduceSub, Int.reduceMul, Int.toNat_natCast, reduceCtorEq, decide_true, decide_false, IntWalk.i64_in, IntWalk.u64_in, IntWalk.u8_in, ha1, ha3, ha28, ha29, ha30, ha34, ha35, o1, hat, hsx]
        refine ⟨_, by omega, j + 1, by omega, rfl, fun k hk' => ?_, rfl⟩
        by_cases hke : k = i * 5 + j
        · rw [hke, ← hx, decide_eq_true_eq]; omega
        · exact hall k (by omega)
      · rw [decide_eq_false hin] at hsx
        rw [all_not hk (by rw [← hx, decide_eq_false_iff_not]; omega)]
        simp (disch := omega) only [go_sem, ↓IntWalk.iteOmega, IntWalk.toNatUp, Nat.reduceEqDiff, Nat.reduceAdd, Nat.reduceMul, Nat.reduceSub, Nat.reduceLT, Nat.reduceLeDiff, Int.reduceToNat, Int.reduceLT, Int.reduceLE, Int.reduceEq, Int.reduceAdd, Int.reduceSub, Int.reduceMul, Int.toNat_natCast, reduceCtorEq, decide_true, decide_false, IntWalk.i64_in, IntWalk.u64_in, IntWalk.u8_in, ha1, ha3, ha28, ha29, ha30, ha34, ha35, o1, hat, hsx]
    · have hj' : j = 5 := by omega
      simp (disch := omega) only [go_sem, ↓IntWalk.iteOmega, IntWalk.toNatUp, Nat.reduceEqDiff, Nat.reduceAdd, Nat.reduceMul, Nat.reduceSub, Nat.reduceLT, Nat.reduceLeDiff, Int.reduceToNat, Int.reduceLT, Int.reduceLE, Int.reduceEq, Int.reduceAdd, Int.reduceSub, Int.reduceMul, Int.toNat_natCast, reduceCtorEq, decide_true, decide_false, IntWalk.i64_in, IntWalk.u64_in, IntWalk.u8_in, ha1, ha3, ha28, ha29, ha30, ha34, ha35, o1]
      exact ⟨_, by omega, i + 1, by omega, rfl, fun k hk => hall k (by omega), rfl⟩
  · rw [all_all (fun k hk => hall k (by omega))]
    simp (disch := omega) only [go_sem, ↓IntWalk.iteOmega, IntWalk.toNatUp, Nat.reduceEqDiff, Nat.reduceAdd, Nat.reduceMul, Nat.reduceSub, Nat.reduceLT, Nat.reduceLeDiff, Int.reduceToNat, Int.reduceLT, Int.reduceLE, Int.reduceEq, Int.reduceAdd, Int.reduceSub, Int.reduceMul, Int.toNat_natCast, reduceCtorEq, decide_true, decide_false, IntWalk.i64_in, IntWalk.u64_in, IntWalk.u8_in, ha1, ha3, ha28, ha29, ha30, o1]
end Go.Proofs.YtbapebepmbikhaaDoor.A
/- law7.Make: machines of one way, of numbers. -/
namespace Go.Proofs.YtbapebepmbikhaaDoor.A
open Go
set_option maxRecDepth 20000
def size7 (size : Int) : Nat := (1 + size % 9).toNat
theorem size7_in (size : Int) : 1 ≤ size7 size ∧ size7 size ≤ 9 ∧ (size7 size : Int) = 1 + size % 9 := by
  have h1 := Int.emod_nonneg size (show (9 : Int) ≠ 0 by decide)
  have h2 := Int.emod_lt_of_pos size (show (0 : Int) < 9 by decide)
  unfold size7; omega
/-- Where a state leads by a mode: by number. -/
def ent7 (n : Nat) (ns : List Int) (acc : Int) (k : Nat) : Int := if k < ns.length then ns.getD k 0 % n else IntKind.i64.wrap ((k / 5 : Nat) + IntKind.i64.wrap ((k % 5 : Nat) * acc)) % n
def next7 (n : Nat) (ns : List Int) (acc : Int) (i : Nat) : List Int := (List.range (i * 5)).map (ent7 n ns acc)
def acc7 (acc : Int) (i : Nat) : Bool := decide (acc.fdiv (2 ^ min i 64) % 2 = 1)
def accs7 (acc : Int) (i : Nat) : List Bool := (List.range i).map (acc7 acc)
def row7 (n : Nat) (ns : List Int) (acc : Int) (i m : Nat) : List Int := (List.range 5).map fun j => if j < m then ent7 n ns acc (i * 5 + j) else 0
theorem next7_len (n ns acc i) : (next7 n ns acc i).length = i * 5 := by simp [next7]
theorem accs7_len (acc i) : (accs7 acc i).length = i := by simp [accs7]
theorem row7_len (n ns acc i m) : (row7 n ns acc i m).length = 5 := by simp [row7]
theorem row7_zero (n ns acc i) : row7 n ns acc i 0 = [0, 0, 0, 0, 0] := by simp [row7]; decide
theorem row7_set (n ns acc i) {m : Nat} (h : m < 5) : (row7 n ns acc i m).set m (ent7 n ns acc (i * 5 + m)) = row7 n ns acc i (m + 1) := by
  refine List.ext_getElem (by simp [row7]) fun j h1 h2 => ?_
  simp only [row7, List.getElem_set, List.getElem_map, List.getElem_range]
  by_cases hj : m = j
  · subst hj; simp
  · rw [if_neg hj]
    by_cases hjm : j < m
    · rw [if_pos hjm, if_pos (by omega)]
    · rw [if_neg hjm, if_neg (by omega)]
theorem next7_succ (n ns acc i) : next7 n ns acc (i + 1) = next7 n ns acc i ++ row7 n ns acc i 5 := by
  have : (i + 1) * 5 = i * 5 + 5 := by omega
  rw [next7, this, List.range_add, List.map_append, List.map_map]
  congr 1
theorem accs7_succ (acc i) : accs7 acc (i + 1) = accs7 acc i ++ [acc7 acc i] := by
  rw [accs7, List.range_succ, List.map_append]; rfl
theorem wf7 (size : Int) (ns : List Int) (acc : Int) : WfD (size7 size) (next7 (size7 size) ns acc (size7 size)) (accs7 acc (size7 size)) := by
  obtain ⟨h1, h2, _⟩ := size7_in size
  refine ⟨⟨h1, by omega⟩, by rw [next7_len]; omega, accs7_len .., fun x hx => ?_⟩
  obtain ⟨k, _, rfl⟩ := List.mem_map.1 hx
  have hp : (0 : Int) < size7 size := by omega
  unfold ent7
  split <;> exact ⟨Int.emod_nonneg _ (by omega), Int.emod_lt_of_pos _ hp⟩
noncomputable def XW7 : FuncId → List AV → Option AV := tabLook [(17, tRel RW)]
theorem XW7_ok : CPSound Tryd.prog XW7 := tab_cons (tab_nil _) (tRel_ok within3_ok)
theorem XW7_eq (a n : Int) (h1 : 0 < n) (h2 : n ≤ 1000000) : XW7 17 [.int .i64 a, .int .i64 n] = some (.int .i64 (a % n)) := rw_eq h1 h2
def nz7 (id : Nat) : Option (List (Nat × Nat)) := if id = 15 then some [(1, 4), (1, 8)] else none
theorem HS.of {e sz D o nx j g n cs} (hj : j < nx) (h : o (j, D) = some (.row ⟨e, sz, g, false, true, cs⟩)) (hl : cs.length = n * sz) : HS e sz D o nx (.ref (j, D) g 0 n) n cs := .inr ⟨j, g, rfl, hj, h, hl⟩
theorem HS.of1 {e sz D o nx j g m n cs} (hm : m = n) (hj : j < nx) (h : o (j, D) = some (.row ⟨e, sz, g, false, true, cs⟩)) (hl : cs.length = n * sz) : HS e sz D o nx (.ref (j, D) g 0 m) n cs := by subst hm; exact HS.of hj h hl
theorem look7M (X) : lookedAt (EX md0 X) nz7 3 Tryd.f14 = true := by kernel_rfl
structure Made7 (o0 : Ob) (nx0 : Nat) (n : Nat) (ns : List Int) (acc : Int) (i : Nat) (vN vA : AV) (o : Ob) (nx : Nat) : Prop where
  le : nx0 ≤ nx
  n : HS 31 5 54 o nx vN i (cI (next7 n ns acc i))
  a : HS 4 1 65 o nx vA i (cB (accs7 acc i))
  keep : ∀ i j, i < nx0 → o (i, j) = o0 (i, j)
  ln : ∀ i g k, vN = .ref (i, 54) g 0 k → nx0 ≤ i
  la : ∀ i g k, vA = .ref (i, 65) g 0 k → nx0 ≤ i
theorem make7_wp (cr) (size : Int) (ns : List Int) (acc : Int) (o0 : Ob) (nx0 : Nat) :
    WP (EX md0 XW7) cr 20 nz7 (Tryd.f14.body.getD .skip) (begin_ [.int .i64 size, slI ns, .int .i64 acc]) o0 nx0 (fun u a o nx => u = .ret ∧ ∃ vN vA, Made7 o0 nx0 (size7 size) ns acc (size7 size) vN vA o nx ∧
      a 6 = .ptr (nx0, 6) (nx0, 6) 0 ∧ o (nx0, 6) = some (.row ⟨25, 1, (nx0, 6), false, true, [vN, vA]⟩)) := by
  have hX := XW7_eq
  obtain ⟨hN1, hN9, hsz⟩ := size7_in size
  simp only [Tryd.f14, Option.getD_some]
  generalize size7 size = n at hN1 hN9 hsz
  simp (disch := omega) only [go_sem, ↓IntWalk.iteOmega, IntWalk.toNatUp, Nat.reduceEqDiff, Nat.reduceAdd, Nat.reduceMul, Nat.reduceSub, Nat.reduceLT, Nat.reduceLeDiff, Int.reduceToNat, Int.reduceLT, Int.reduceLE, Int.reduceEq, Int.reduceAdd, Int.reduceSub, Int.reduceMul, Int.toNat_natCast, reduceCtorEq, decide_true, decide_false, IntWalk.i64_in, IntWalk.u64_in, IntWalk.u8_in, nz7, hX, hsz.symm]
  refine WP_loop (fun m a o nx => ∃ i vN vA, i ≤ n ∧ m = n - i ∧ nx0 + 2 ≤ nx ∧ a 1 = slI ns ∧ a 2 = .int .i64 acc ∧ a 6 = .ptr (nx0, 6) (nx0, 6) 0 ∧ a 7 = .ptr (nx0 + 1, 7) (nx0 + 1, 7) 0 ∧ a 8 = .int .i64 n ∧ a 9 = .int .i64 i ∧
    Made7 o0 nx0 n ns acc i vN vA o nx ∧ o (nx0 + 1, 7) = some (.row ⟨25, 1, (nx0 + 1, 7), false, true, [vN, vA]⟩) ∧
    o (nx0, 6) = some (.row ⟨25, 1, (nx0, 6), false, true, [.nil, .nil]⟩)) n (by omega) ⟨0, .nil, .nil, by omega, by omega, by omega, by simp (disch := omega) only [go_sem, ↓IntWalk.iteOmega, IntWalk.toNatUp, Nat.reduceEqDiff, Nat.reduceAdd, Nat.reduceMul, Nat.reduceSub, Nat.reduceLT, Nat.reduceLeDiff, Int.reduceToNat, Int.reduceLT, Int.reduceLE, Int.reduceEq, Int.reduceAdd, Int.reduceSub, Int.reduceMul, Int.toNat_natCast, reduceCtorEq, decide_true, decide_false, IntWalk.i64_in, IntWalk.u64_in, IntWalk.u8_in], by simp (disch := omega) only [go_sem, ↓IntWalk.iteOmega, IntWalk.toNatUp, Nat.reduceEqDiff, Nat.reduceAdd, Nat.reduceMul, Nat.reduceSub, Nat.reduceLT, Nat.reduceLeDiff, Int.reduceToNat, Int.reduceLT, Int.reduceLE, Int.reduceEq, Int.reduceAdd, Int.reduceSub, Int.reduceMul, Int.toNat_natCast, reduceCtorEq, decide_true, decide_false, IntWalk.i64_in, IntWalk.u64_in, IntWalk.u8_in], by simp (disch := omega) only [go_sem, ↓IntWalk.iteOmega, IntWalk.toNatUp, Nat.reduceEqDiff, Nat.reduceAdd, Nat.reduceMul, Nat.reduceSub, Nat.reduceLT, Nat.reduceLeDiff, Int.reduceToNat, Int.reduceLT, Int.reduceLE, Int.reduceEq, Int.reduceAdd, Int.reduceSub, Int.reduceMul, Int.toNat_natCast, reduceCtorEq, decide_true, decide_false, IntWalk.i64_in, IntWalk.u64_in, IntWalk.u8_in], by simp (disch := omega) only [go_sem, ↓IntWalk.iteOmega, IntWalk.toNatUp, Nat.reduceEqDiff, Nat.reduceAdd, Nat.reduceMul, Nat.reduceSub, Nat.reduceLT, Nat.reduceLeDiff, Int.reduceToNat, Int.reduceLT, Int.reduceLE, Int.reduceEq, Int.reduceAdd, Int.reduceSub, Int.reduceMul, Int.toNat_natCast, reduceCtorEq, decide_true, decide_false, IntWalk.i64_in, IntWalk.u64_in, IntWalk.u8_in], by simp (disch := omega) only [go_sem, ↓IntWalk.iteOmega, IntWalk.toNatUp, Nat.reduceEqDiff, Nat.reduceAdd, Nat.reduceMul, Nat.reduceSub, Nat.reduceLT, Nat.reduceLeDiff, Int.reduceToNat, Int.reduceLT, Int.reduceLE, Int.reduceEq, Int.reduceAdd, Int.reduceSub, Int.reduceMul, Int.toNat_natCast, reduceCtorEq, decide_true, decide_false, IntWalk.i64_in, IntWalk.u64_in, IntWalk.u8_in], by simp (disch := omega) only [go_sem, ↓IntWalk.iteOmega, IntWalk.toNatUp, Nat.reduceEqDiff, Nat.reduceAdd, Nat.reduceMul, Nat.reduceSub, Nat.reduceLT, Nat.reduceLeDiff, Int.reduceToNat, Int.reduceLT, Int.reduceLE, Int.reduceEq, Int.reduceAdd, Int.reduceSub, Int.reduceMul, Int.toNat_natCast, reduceCtorEq, decide_true, decide_false, IntWalk.i64_in, IntWalk.u64_in, IntWalk.u8_in], ⟨by omega, HS.nil, HS.nil, fun i j h => by simp (disch := omega) only [upd_fst], fun i g n h => (by cases h), fun i g n h => (by cases h)⟩, by simp [upd_app], by simp [upd_app]⟩ ?_
  rintro m a o nx ⟨i, vN, vA, hi, rfl, hnx, h1, h2, h6, h7, h8, h9, hM, ho7, ho6⟩
  obtain ⟨hle, hHN, hHA, hkeep, hln, hla⟩ := hM
  have hokN := hHN.ok
  have hokA := hHA.ok
  by_cases hlt : i < n
  · simp (disch := omega) only [go_sem, ↓IntWalk.iteOmega, IntWalk.toNatUp, Nat.reduceEqDiff, Nat.reduceAdd, Nat.reduceMul, Nat.reduceSub, Nat.reduceLT, Nat.reduceLeDiff, Int.reduceToNat, Int.reduceLT, Int.reduceLE, Int.reduceEq, Int.reduceAdd, Int.reduceSub, Int.reduceMul, Int.toNat_natCast, reduceCtorEq, decide_true, decide_false, IntWalk.i64_in, IntWalk.u64_in, IntWalk.u8_in, h1, h2, h6, h7, h8, h9, ho7, ho6]
    refine WP_loop (fun m' a o' nx' => ∃ j : Nat, j ≤ 5 ∧ m' = 5 - j ∧ nx + 1 ≤ nx' ∧ a 1 = slI ns ∧ a 2 = .int .i64 acc ∧ a 6 = .ptr (nx0, 6) (nx0, 6) 0 ∧ a 7 = .ptr (nx0 + 1, 7) (nx0 + 1, 7) 0 ∧ a 8 = .int .i64 n ∧ a 9 = .int .i64 i ∧ a 10 = .ptr (nx + 1, 10) (nx + 1, 10) 0 ∧ a 11 = .int .i64 j ∧ o' (nx + 1, 10) = some (.row ⟨31, 1, (nx + 1, 10), false, true, cI (row7 n ns acc i j)⟩) ∧ (∀ i' j', i' < nx → o' (i', j') = o (i', j')) ∧ nx + 2 ≤ nx') 5 (by omega) ⟨0, by omega, by omega, by omega, by simp (disch := omega) only [go_sem, ↓IntWalk.iteOmega, IntWalk.toNatUp, Nat.reduceEqDiff, Nat.reduceAdd, Nat.reduceMul, Nat.reduceSub, Nat.reduceLT, Nat.reduceLeDiff, Int.reduceToNat, Int.reduceLT, Int.reduceLE, Int.reduceEq, Int.reduceAdd, Int.reduceSub, Int.reduceMul, Int.toNat_natCast, reduceCtorEq, decide_true, decide_false, IntWalk.i64_in, IntWalk.u64_in, IntWalk.u8_in, h1], by simp (disch := omega) only [go_sem, ↓IntWalk.iteOmega, IntWalk.toNatUp, Nat.reduceEqDiff, Nat.reduceAdd, Nat.reduceMul, Nat.reduceSub, Nat.reduceLT, Nat.reduceLeDiff, Int.reduceToNat, Int.reduceLT, Int.reduceLE, Int.reduceEq, Int.reduceAdd, Int.reduceSub, Int.reduceMul, Int.toNat_natCast, reduceCtorEq, decide_true, decide_false, IntWalk.i64_in, IntWalk.u64_in, IntWalk.u8_in, h2], by simp (disch := omega) only [go_sem, ↓IntWalk.iteOmega, IntWalk.toNatUp, Nat.reduceEqDiff, Nat.reduceAdd, Nat.reduceMul, Nat.reduceSub, Nat.reduceLT, Nat.reduceLeDiff, Int.reduceToNat, Int.reduceLT, Int.reduceLE, Int.reduceEq, Int.reduceAdd, Int.reduceSub, Int.reduceMul, Int.toNat_natCast, reduceCtorEq, decide_true, decide_false, IntWalk.i64_in, IntWalk.u64_in, IntWalk.u8_in, h6], by simp (disch := omega) only [go_sem, ↓IntWalk.iteOmega, IntWalk.toNatUp, Nat.reduceEqDiff, Nat.reduceAdd, Nat.reduceMul, Nat.reduceSub, Nat.reduceLT, Nat.reduceLeDiff, Int.reduceToNat, Int.reduceLT, Int.reduceLE, Int.reduceEq, Int.reduceAdd, Int.reduceSub, Int.reduceMul, Int.toNat_natCast, reduceCtorEq, decide_true, decide_false, IntWalk.i64_in, IntWalk.u64_in, IntWalk.u8_in, h7], by simp (disch := omega) only [go_sem, ↓IntWalk.iteOmega, IntWalk.toNatUp, Nat.reduceEqDiff, Nat.reduceAdd, Nat.reduceMul, Nat.reduceSub, Nat.reduceLT, Nat.reduceLeDiff, Int.reduceToNat, Int.reduceLT, Int.reduceLE, Int.reduceEq, Int.reduceAdd, Int.reduceSub, Int.reduceMul, Int.toNat_natCast, reduceCtorEq, decide_true, decide_false, IntWalk.i64_in, IntWalk.u64_in, IntWalk.u8_in, h8], by simp (disch := omega) only [go_sem, ↓IntWalk.iteOmega, IntWalk.toNatUp, Nat.reduceEqDiff, Nat.reduceAdd, Nat.reduceMul, Nat.reduceSub, Nat.reduceLT, Nat.reduceLeDiff, Int.reduceToNat, Int.reduceLT, Int.reduceLE, Int.reduceEq, Int.reduceAdd, Int.reduceSub, Int.reduceMul, Int.toNat_natCast, reduceCtorEq, decide_true, decide_false, IntWalk.i64_in, IntWalk.u64_in, IntWalk.u8_in, h9], by simp (disch := omega) only [go_sem, ↓IntWalk.iteOmega, IntWalk.toNatUp, Nat.reduceEqDiff, Nat.reduceAdd, Nat.reduceMul, Nat.reduceSub, Nat.reduceLT, Nat.reduceLeDiff, Int.reduceToNat, Int.reduceLT, Int.reduceLE, Int.reduceEq, Int.reduceAdd, Int.reduceSub, Int.reduceMul, Int.toNat_natCast, reduceCtorEq, decide_true, decide_false, IntWalk.i64_in, IntWalk.u64_in, IntWalk.u8_in], by simp (disch := omega) only [go_sem, ↓IntWalk.iteOmega, IntWalk.toNatUp, Nat.reduceEqDiff, Nat.reduceAdd, Nat.reduceMul, Nat.reduceSub, Nat.reduceLT, Nat.reduceLeDiff, Int.reduceToNat, Int.reduceLT, Int.reduceLE, Int.reduceEq, Int.reduceAdd, Int.reduceSub, Int.reduceMul, Int.toNat_natCast, reduceCtorEq, decide_true, decide_false, IntWalk.i64_in, IntWalk.u64_in, IntWalk.u8_in], by rw [row7_zero]; exact upd_same _ _ _, fun i' j' h => by simp (disch := omega) only [upd_fst], by omega⟩ ?_
    clear h1 h2 h6 h7 h8 h9
    rintro m' a o' nx' ⟨j, hj, rfl, hnx', h1, h2, h6, h7, h8, h9, h10, h11, ho10, hkp, hnx2⟩
    have ho7' := (hkp (nx0 + 1) 7 (by omega)).trans ho7
    have ho6' := (hkp nx0 6 (by omega)).trans ho6
    by_cases hj5 : j < 5
    · have hset := row7_set n ns acc i hj5
      have hlen := row7_len n ns acc i j
      have hsp : ∀ x, splice (cI (row7 n ns acc i j)) j [.int .i64 x] = cI ((row7 n ns acc i j).set j x) := fun x => cI_set _ _ _ (by omega)
      obtain ⟨row, hrow⟩ : ∃ row, row = row7 n ns acc i j := ⟨_, rfl⟩
      rw [← hrow] at ho10 hset hlen hsp
      by_cases hk : i * 5 + j < ns.length
      · have hg := cI_get (s := 1) hk
        have he : ent7 n ns acc (i * 5 + j) = ns.getD (i * 5 + j) 0 % n := if_pos hk
        have hk' : (5 * (i : Int) + j) < ns.length := by omega
        have hkn : (5 * (i : Int) + (j : Int)).toNat = i * 5 + j := by omega
        rw [he] at hset
        have hXx := hX (ns.getD (i * 5 + j) 0) n (by omega) (by omega)
        simp (disch := omega) only [go_sem, ↓IntWalk.iteOmega, IntWalk.toNatUp, Nat.reduceEqDiff, Nat.reduceAdd, Nat.reduceMul, Nat.reduceSub, Nat.reduceLT, Nat.reduceLeDiff, Int.reduceToNat, Int.reduceLT, Int.reduceLE, Int.reduceEq, Int.reduceAdd, Int.reduceSub, Int.reduceMul, Int.toNat_natCast, reduceCtorEq, decide_true, decide_false, IntWalk.i64_in, IntWalk.u64_in, IntWalk.u8_in, h1, h2, h6, h7, h8, h9, h10, h11, ho10, hk', hkn, hg, hXx, hlen, hsp, hset]
        refine ⟨_, by omega, j + 1, by omega, rfl, by omega, rfl, rfl, fun i' j' h => ?_, by omega⟩
        have e : i' ≠ nx + 1 := by omega
        simp [e, hkp i' j' h]
      · have he : ent7 n ns acc (i * 5 + j) = IntKind.i64.wrap ((i : Int) + IntKind.i64.wrap ((j : Int) * acc)) % n := by
          rw [ent7, if_neg hk, show (i * 5 + j) / 5 = i by omega, show (i * 5 + j) % 5 = j by omega]
        have hk' : ¬ (5 * (i : Int) + j) < ns.length := by omega
        rw [he] at hset
        have hXx := hX (IntKind.i64.wrap ((i : Int) + IntKind.i64.wrap ((j : Int) * acc))) n (by omega) (by omega)
        simp (disch := omega) only [go_sem, ↓IntWalk.iteOmega, IntWalk.toNatUp, Nat.reduceEqDiff, Nat.reduceAdd, Nat.reduceMul, Nat.reduceSub, Nat.reduceLT, Nat.reduceLeDiff, Int.reduceToNat, Int.reduceLT, Int.reduceLE, Int.reduceEq, Int.reduceAdd, Int.reduceSub, Int.reduceMul, Int.toNat_natCast, reduceCtorEq, decide_true, decide_false, IntWalk.i64_in, IntWalk.u64_in, IntWalk.u8_in, h1, h2, h6, h7, h8, h9, h10, h11, ho10, hk', hXx, hlen, hsp, hset]
        refine ⟨_, by omega, j + 1, by omega, rfl, by omega, rfl, rfl, fun i' j' h => ?_, by omega⟩
        have e : i' ≠ nx + 1 := by omega
        simp [e, hkp i' j' h]
    · have hj' : j = 5 := by omega
      subst hj'
      have hns := next7_succ n ns acc i
      have hac := accs7_succ acc i
      have hl5 := row7_len n ns acc i 5
      have hrow5 : (cI (row7 n ns acc i 5)).length = 5 := by rw [cI_length, hl5]
      have hXx := hX (acc.fdiv (2 ^ min i 64)) 2 (by omega) (by omega)
      have htk5 : (cI (row7 n ns acc i 5)).take 5 = cI (row7 n ns acc i 5) := take_len hrow5
      have htN : (cI (next7 n ns acc i)).take (i * 5) = cI (next7 n ns acc i) := take_len (by rw [cI_length, next7_len])
      have htA : (cB (accs7 acc i)).take i = cB (accs7 acc i) := take_len (by rw [cB_length, accs7_len])
      have hlN := next7_len n ns acc i
      have hlA := accs7_len acc i
      have hNs : cI (next7 n ns acc (i + 1)) = cI (next7 n ns acc i) ++ cI (row7 n ns acc i 5) := by rw [hns, cI_app]
      have hAs : cB (accs7 acc (i + 1)) = cB (accs7 acc i) ++ [.bool (decide (acc.fdiv (2 ^ min i 64) % 2 = 1))] := by rw [hac, cB_app]; rfl
      have hNl : (cI (next7 n ns acc (i + 1))).length = (i + 1) * 5 := by rw [cI_length, next7_len]
      have hAl : (cB (accs7 acc (i + 1))).length = (i + 1) * 1 := by rw [cB_length, accs7_len]; omega
      rcases hHN with ⟨rfl, e2, e3⟩ | ⟨i1, g1, rfl, hi1, hrowN, hlenN⟩
      · rcases hHA with ⟨rfl, f2, f3⟩ | ⟨i2, g2, rfl, hi2, hrowA, hlenA⟩
        · simp (disch := omega) only [go_sem, ↓IntWalk.iteOmega, IntWalk.toNatUp, Nat.reduceEqDiff, Nat.reduceAdd, Nat.reduceMul, Nat.reduceSub, Nat.reduceLT, Nat.reduceLeDiff, Int.reduceToNat, Int.reduceLT, Int.reduceLE, Int.reduceEq, Int.reduceAdd, Int.reduceSub, Int.reduceMul, Int.toNat_natCast, reduceCtorEq, decide_true, decide_false, IntWalk.i64_in, IntWalk.u64_in, IntWalk.u8_in, h1, h2, h6, h7, h8, h9, h10, h11, ho10, ho7', ho6', hrow5, htk5, hXx, hlN, hlA, nz7]
          have e0 : i = 0 := e2
          refine ⟨_, by omega, i + 1, _, _, by omega, rfl, by omega, rfl, ⟨by omega, HS.of1 (by omega) (by omega) (by rw [hNs, e3]; simp [upd_app]) hNl, HS.of1 (by omega) (by omega) (by rw [hAs, f3]; simp [upd_app]) hAl, fun i' j' h => ?_, fun i' g k h => ?_, fun i' g k h => ?_⟩, rfl⟩
          · simp (disch := omega) only [upd_fst]
            rw [hkp i' j' (by omega), hkeep i' j' h]
          · injection h with h1 h2; injection h1 with h1 h2; omega
          · injection h with h1 h2; injection h1 with h1 h2; omega
        · have hrowA' := (hkp i2 65 (by omega)).trans hrowA
          simp (disch := omega) only [go_sem, ↓IntWalk.iteOmega, IntWalk.toNatUp, Nat.reduceEqDiff, Nat.reduceAdd, Nat.reduceMul, Nat.reduceSub, Nat.reduceLT, Nat.reduceLeDiff, Int.reduceToNat, Int.reduceLT, Int.reduceLE, Int.reduceEq, Int.reduceAdd, Int.reduceSub, Int.reduceMul, Int.toNat_natCast, reduceCtorEq, decide_true, decide_false, IntWalk.i64_in, IntWalk.u64_in, IntWalk.u8_in, h1, h2, h6, h7, h8, h9, h10, h11, ho10, ho7', ho6', hrow5, htk5, hXx, hlN, hlA, nz7, hrowA', htA]
          have hp2 := hla _ _ _ rfl
          have e0 : i = 0 := e2
          refine ⟨_, by omega, i + 1, _, _, by omega, rfl, by omega, rfl, ⟨by omega, HS.of1 (by omega) (by omega) (by rw [hNs, e3]; simp [upd_app]) hNl, HS.of (by omega) (by rw [hAs]; simp [upd_app]) hAl, fun i' j' h => ?_, fun i' g k h => ?_, fun i' g k h => ?_⟩, rfl⟩
          · simp (disch := omega) only [upd_fst]
            rw [hkp i' j' (by omega), hkeep i' j' h]
          · injection h with h1 h2; injection h1 with h1 h2; omega
          · injection h with h1 h2; injection h1 with h1 h2; omega
      · rcases hHA with ⟨rfl, f2, f3⟩ | ⟨i2, g2, rfl, hi2, hrowA, hlenA⟩
        · have hrowN' := (hkp i1 54 (by omega)).trans hrowN
          simp (disch := omega) only [go_sem, ↓IntWalk.iteOmega, IntWalk.toNatUp, Nat.reduceEqDiff, Nat.reduceAdd, Nat.reduceMul, Nat.reduceSub, Nat.reduceLT, Nat.reduceLeDiff, Int.reduceToNat, Int.reduceLT, Int.reduceLE, Int.reduceEq, Int.reduceAdd, Int.reduceSub, Int.reduceMul, Int.toNat_natCast, reduceCtorEq, decide_true, decide_false, IntWalk.i64_in, IntWalk.u64_in, IntWalk.u8_in, h1, h2, h6, h7, h8, h9, h10, h11, ho10, ho7', ho6', hrow5, htk5, hXx, hlN, hlA, nz7, hrowN', htN]
          have hp1 := hln _ _ _ rfl
          have e0 : i = 0 := f2
          refine ⟨_, by omega, i + 1, _, _, by omega, rfl, by omega, rfl, ⟨by omega, HS.of (by omega) (by rw [hNs]; simp [upd_app]) hNl, HS.of1 (by omega) (by omega) (by rw [hAs, f3]; simp [upd_app]) hAl, fun i' j' h => ?_, fun i' g k h => ?_, fun i' g k h => ?_⟩, rfl⟩
          · simp (disch := omega) only [upd_fst]
            rw [hkp i' j' (by omega), hkeep i' j' h]
          · injection h with h1 h2; injection h1 with h1 h2; omega
          · injection h with h1 h2; injection h1 with h1 h2; omega
        · have hrowA' := (hkp i2 65 (by omega)).trans hrowA
          have hrowN' := (hkp i1 54 (by omega)).trans hrowN
          simp (disch := omega) only [go_sem, ↓IntWalk.iteOmega, IntWalk.toNatUp, Nat.reduceEqDiff, Nat.reduceAdd, Nat.reduceMul, Nat.reduceSub, Nat.reduceLT, Nat.reduceLeDiff, Int.reduceToNat, Int.reduceLT, Int.reduceLE, Int.reduceEq, Int.reduceAdd, Int.reduceSub, Int.reduceMul, Int.toNat_natCast, reduceCtorEq, decide_true, decide_false, IntWalk.i64_in, IntWalk.u64_in, IntWalk.u8_in, h1, h2, h6, h7, h8, h9, h10, h11, ho10, ho7', ho6', hrow5, htk5, hXx, hlN, hlA, nz7, hrowN', hrowA', htN, htA]
          have hp1 := hln _ _ _ rfl
          have hp2 := hla _ _ _ rfl
          refine ⟨_, by omega, i + 1, _, _, by omega, rfl, by omega, rfl, ⟨by omega, HS.of (by omega) (by rw [hNs]; simp [upd_app]) hNl, HS.of (by omega) (by rw [hAs]; simp [upd_app]) hAl, fun i' j' h => ?_, fun i' g k h => ?_, fun i' g k h => ?_⟩, rfl⟩
          · simp (disch := omega) only [upd_fst]
            rw [hkp i' j' (by omega), hkeep i' j' h]
          · injection h with h1 h2; injection h1 with h1 h2; omega
          · injection h with h1 h2; injection h1 with h1 h2; omega
  · have hie : i = n := by omega
    subst hie
    simp (disch := omega) only [go_sem, ↓IntWalk.iteOmega, IntWalk.toNatUp, Nat.reduceEqDiff, Nat.reduceAdd, Nat.reduceMul, Nat.reduceSub, Nat.reduceLT, Nat.reduceLeDiff, Int.reduceToNat, Int.reduceLT, Int.reduceLE, Int.reduceEq, Int.reduceAdd, Int.reduceSub, Int.reduceMul, Int.toNat_natCast, reduceCtorEq, decide_true, decide_false, IntWalk.i64_in, IntWalk.u64_in, IntWalk.u8_in, h1, h2, h6, h7, h8, h9, ho7, ho6, hokN, hokA]
    refine ⟨_, _, ⟨by omega, hHN.keep (fun i hi => by simp [upd_app]) (by omega), hHA.keep (fun i hi => by simp [upd_app]) (by omega), fun i' j' h => ?_, hln, hla⟩, rfl⟩
    simp (disch := omega) only [upd_fst]
    exact hkeep i' j' h
end Go.Proofs.YtbapebepmbikhaaDoor.A
/- law7's 'known' answers true: one run by the kernel. -/
namespace Go.Proofs.YtbapebepmbikhaaDoor.A
open Go
def mode7 (f : FuncId) : Mode := if f ∈ [24, 36, 48, 49, 47, 60, 63] then .pure false else if f ∈ [15, 21, 19, 32, 38] then .pure true else .raw false
noncomputable def E7 : Env := { P := Tryd.prog, mode := mode7, ext := fun _ _ => none }
theorem known7_run : (calls E7 60).1 12 [] = some (.bool true) := by kernel_rfl
theorem known7_ok : Ok Tryd.prog 12 [] (.bool true) := ok_calls (E := E7) (tab_nil _) mixed known7_run
end Go.Proofs.YtbapebepmbikhaaDoor.A
/- The table of contracts for the laws of machines of one way. -/
namespace Go.Proofs.YtbapebepmbikhaaDoor.A
open Go
set_option maxRecDepth 20000
abbrev N7 (size : Int) (ns : List Int) (acc : Int) : List Int := next7 (size7 size) ns acc (size7 size)
abbrev A7 (size : Int) (acc : Int) : List Bool := accs7 acc (size7 size)
abbrev made7V (size : Int) (ns : List Int) (acc : Int) : AV := dfaV (size7 size) (N7 size ns acc) (A7 size acc)
theorem make7_ok (size : Int) (ns : List Int) (acc : Int) : Ok Tryd.prog 14 [.int .i64 size, slI ns, .int .i64 acc] (made7V size ns acc) := by
  refine ok_of_WP (E := EX md0 XW7) (cr := noR) XW7_ok (noR_ok _) mixed (k := 20) Tryd.func14 (look7M _) rfl (WP_mono (make7_wp _ size ns acc _ _) ?_)
  rintro u a o nx ⟨rfl, vN, vA, hM, h6, ho6⟩
  have v1 := hM.n.view 10
  have v2 := hM.a.view 10
  rw [view_cI] at v1
  rw [view_cB] at v2
  have hl := accs7_len acc (size7 size)
  refine ⟨.inr rfl, ?_⟩
  simp only [Tryd.f14]
  simp (disch := omega) only [go_sem, ↓IntWalk.iteOmega, IntWalk.toNatUp, Nat.reduceEqDiff, Nat.reduceAdd, Nat.reduceMul, Nat.reduceSub, Nat.reduceLT, Nat.reduceLeDiff, Int.reduceToNat, Int.reduceLT, Int.reduceLE, Int.reduceEq, Int.reduceAdd, Int.reduceSub, Int.reduceMul, Int.toNat_natCast, reduceCtorEq, decide_true, decide_false, IntWalk.i64_in, IntWalk.u64_in, IntWalk.u8_in, h6, ho6, v1, v2]
  rw [made7V, dfaV, slB, accs7_len]
theorem goD_good {n N A} (h : WfD n N A) : ∀ (w : List Int) (s : Int), (∀ x ∈ w, 0 ≤ x ∧ x < 5) → 0 ≤ s → s < (n : Int) → 0 ≤ goD N s w ∧ goD N s w < (n : Int)
  | [], s, _, h1, h2 => by rw [goD]; omega
  | m :: w, s, hx, h1, h2 => by
    have hm := hx m (by simp)
    rw [goD, if_neg (by omega)]
    have := h.get (k := s.toNat * 5 + m.toNat) (by omega)
    exact goD_good h w _ (fun x hx' => hx x (List.mem_cons_of_mem _ hx')) this.1 this.2
theorem wordOf_in (ns : List Int) (most : Int) : ∀ x ∈ wordOf ns most 4, 0 ≤ x ∧ x < 5 := by
  intro x hx
  obtain ⟨y, _, rfl⟩ := List.mem_map.1 hx
  have h1 := Int.emod_nonneg y (show (1 + 4 % 5 : Int) ≠ 0 by decide)
  have h2 := Int.emod_lt_of_pos y (show (0 : Int) < 1 + 4 % 5 by decide)
  exact ⟨h1, by omega⟩
def RKn7 (args : List AV) (r : AV) : Prop := args = [] ∧ r = .bool true
theorem RKn7_fn : Fun1 RKn7 := by rintro args r r' ⟨_, rfl⟩ ⟨_, rfl⟩; rfl
theorem RKn7_ok (args r) (h : RKn7 args r) : Ok Tryd.prog 12 args r := by obtain ⟨rfl, rfl⟩ := h; exact known7_ok
def RMk7 (args : List AV) (r : AV) : Prop := ∃ (size : Int) (ns : List Int) (acc : Int), args = [.int .i64 size, slI ns, .int .i64 acc] ∧ r = made7V size ns acc
theorem RMk7_fn : Fun1 RMk7 := by
  rintro args r r' ⟨a, b, c, rfl, rfl⟩ ⟨a', b', c', h, rfl⟩
  simp only [List.cons.injEq, AV.int.injEq, AV.sl.injEq, true_and, and_true] at h
  obtain ⟨h1, ⟨_, h2⟩, h3⟩ := h
  rw [h1, cI_inj h2, h3]
theorem RMk7_ok (args r) (h : RMk7 args r) : Ok Tryd.prog 14 args r := by obtain ⟨a, b, c, rfl, rfl⟩ := h; exact make7_ok a b c
def RRunD (args : List AV) (r : AV) : Prop := ∃ (n : Nat) (N : List Int) (A : List Bool) (w : List Int), WfD n N A ∧ w.length ≤ 1000000 ∧ args = [dfaV n N A, slI w] ∧ r = .bool (runD n N A w)
theorem RRunD_fn : Fun1 RRunD := by
  rintro args r r' ⟨n, N, A, w, _, _, rfl, rfl⟩ ⟨n', N', A', w', _, _, h, rfl⟩
  simp only [List.cons.injEq, and_true] at h
  obtain ⟨h1, h2, h3⟩ := dfaV_inj h.1
  rw [h1, h2, h3, slI_inj h.2]
theorem RRunD_dfa (args r) (h : RRunD args r) : Ok Tryd.prog 21 args r := by obtain ⟨n, N, A, w, h1, h2, rfl, rfl⟩ := h; exact drun0_ok h1 w h2
theorem RRunD_ref (args r) (h : RRunD args r) : Ok Tryd.prog 22 args r := by obtain ⟨n, N, A, w, h1, h2, rfl, rfl⟩ := h; exact drun1_ok h1 w h2
noncomputable def XL7 : FuncId → List AV → Option AV := tabLook [(12, tRel RKn7), (14, tRel RMk7), (18, tRel RWord), (19, tRel RGoD), (20, tRel RGoD), (21, tRel RRunD), (22, tRel RRunD), (17, tRel RW)]
theorem XL7_ok : CPSound Tryd.prog XL7 := tab_cons (tab_cons (tab_cons (tab_cons (tab_cons (tab_cons (tab_cons (tab_cons (tab_nil _) (tRel_ok within3_ok)) (tRel_ok RRunD_ref)) (tRel_ok RRunD_dfa)) (tRel_ok RGoD_ref)) (tRel_ok RGoD_dfa)) (tRel_ok RWord_ok)) (tRel_ok RMk7_ok)) (tRel_ok RKn7_ok)
theorem XL7_known : XL7 12 [] = some (.bool true) := tRel_eq (R := RKn7) RKn7_fn ⟨rfl, rfl⟩
theorem XL7_make (size : Int) (ns : List Int) (acc : Int) : XL7 14 [.int .i64 size, slI ns, .int .i64 acc] = some (made7V size ns acc) := tRel_eq (R := RMk7) RMk7_fn ⟨_, _, _, rfl, rfl⟩
theorem XL7_word (ns : List Int) (most few : Int) (h : 0 ≤ most ∧ most ≤ 1000) : XL7 18 [slI ns, .int .i64 most, .int .i64 few] = some (slI (wordOf ns most few)) := tRel_eq (R := RWord) RWord_fn ⟨_, _, _, h, rfl, rfl⟩
theorem XL7_go {n N A} (hw : WfD n N A) (s : Int) (w : List Int) (hl : w.length ≤ 1000000) : XL7 19 [dfaV n N A, .int .i64 s, slI w] = some (.int .i64 (goFull n N s w)) := tRel_eq (R := RGoD) RGoD_fn ⟨_, _, _, _, _, hw, hl, rfl, rfl⟩
theorem XL7_rgo {n N A} (hw : WfD n N A) (s : Int) (w : List Int) (hl : w.length ≤ 1000000) : XL7 20 [dfaV n N A, .int .i64 s, slI w] = some (.int .i64 (goFull n N s w)) := tRel_eq (R := RGoD) RGoD_fn ⟨_, _, _, _, _, hw, hl, rfl, rfl⟩
theorem XL7_run {n N A} (hw : WfD n N A) (w : List Int) (hl : w.length ≤ 1000000) : XL7 21 [dfaV n N A, slI w] = some (.bool (runD n N A w)) := tRel_eq (R := RRunD) RRunD_fn ⟨_, _, _, _, hw, hl, rfl, rfl⟩
theorem XL7_rrun {n N A} (hw : WfD n N A) (w : List Int) (hl : w.length ≤ 1000000) : XL7 22 [dfaV n N A, slI w] = some (.bool (runD n N A w)) := tRel_eq (R := RRunD) RRunD_fn ⟨_, _, _, _, hw, hl, rfl, rfl⟩
theorem XL7_within (a n : Int) (h1 : 0 < n) (h2 : n ≤ 1000000) : XL7 17 [.int .i64 a, .int .i64 n] = some (.int .i64 (a % n)) := rw_eq h1 h2
end Go.Proofs.YtbapebepmbikhaaDoor.A
