/- The document's least machine. -/
import Derived.Test.YtpmjpogcaglphaaDoorMLMLaws26
import Derived.Test.YtpmjpogcaglphaaDoorMLMLaws27
set_option linter.unusedVariables false
set_option linter.unusedSimpArgs false
set_option linter.unnecessarySimpa false
namespace Go.Proofs.YtpmjpogcaglphaaDoor.A
open Go
set_option maxRecDepth 20000
theorem bX8 {N A} (h : OkD N A) : (P4 N A).length = A.length := by
 obtain ⟨_, _, _, c2, F1, c1, F2, h1, h2, he⟩ := ak1 h
 exact h2.len
abbrev bM2 (A : List Bool) (L : List Nat) : List Bool := L.map fun s => A.getD s false
theorem bH4 {cl : Nat → Nat} {nx : Nat → Nat → Nat} {r i : Nat} {L R : List Nat} {p : List Nat × List Nat} (h : goC cl nx r i L R = some p) : ∃ r', r = r' + 1 ∧ (L[i]? = none ∧ p = (L, R) ∨ ∃ x, L[i]? = some x ∧ goC cl nx r' (i + 1) (M4 cl nx x 5 L).2 (R ++ (M4 cl nx x 5 L).1) = some p) := by
 cases r with
 | zero => cases h
 | succ r =>
  refine ⟨r, rfl, ?_⟩
  rw [goC] at h
  cases hx : L[i]? with
  | none =>
   rw [hx] at h
   injection h with h
   exact .inl ⟨rfl, h.symm⟩
  | some x =>
   rw [hx] at h
   exact .inr ⟨x, rfl, h⟩
def cF3 (args : List AV) (r : AV) : Prop := ∃ (n : Nat) (N : List Int) (A : List Bool), WfD n N A ∧ args = [ar3 n N A] ∧ r = ar3 (Z1 N A).length (ar4 N A) (Z1 N A)
theorem bX9 : Q5 cF3 := by
 rintro args r r' ⟨n, N, A, _, rfl, rfl⟩ ⟨n', N', A', _, h, rfl⟩
 simp only [List.cons.injEq, and_true] at h
 obtain ⟨_, h1, h2⟩ := az3 h
 rw [h1, h2]
set_option maxRecDepth 20000
theorem U6 : ∀ (x y : List Int), x.length = y.length → u7 (List.replicate x.length .int) (cI x) (cI y) = some (decide (x = y))
 | [], [], _ => rfl
 | [], _ :: _, h => by simp at h
 | _ :: _, [], h => by simp at h
 | a :: x, b :: y, h => by
  have ih := U6 x y (by simpa using h)
  show (match as9 .int (.int .i64 a) (.int .i64 b), u7 (List.replicate x.length .int) (cI x) (cI y) with | some a, some b => some (a && b) | _, _ => none) = _
  rw [ih]
  simp only [as9, if_true]
  by_cases h1 : a = b <;> by_cases h2 : x = y <;> simp [h1, h2]
theorem df4 (P : Program) (t : TypeId) (x y : List AV) : I1 P .eql t (.agg x) (.agg y) = (D4 P t).bind fun l => (u7 l x y).map .bool := rfl
theorem bH5 {x y : List Int} (hx : x.length = 6) (hy : y.length = 6) : I1 Tryd.prog .eql 110 (.agg (cI x)) (.agg (cI y)) = some (.bool (decide (x = y))) := by
 rw [df4, cm3]
 have := U6 x y (by omega)
 rw [hx] at this
 show (u7 (List.replicate 6 .int) (cI x) (cI y)).map AV.bool = _
 rw [this]
 rfl
def Z2 (N : List Int) (c : List Nat) (s m : Nat) : List Nat := c.getD s 0 :: (List.range m).map fun j => c.getD (N.getD (s * 5 + j) 0).toNat 0
theorem aq6 (N c s m) : (Z2 N c s m).length = m + 1 := by simp [Z2]
theorem be8 (N c s m) : Z2 N c s (m + 1) = Z2 N c s m ++ [c.getD (N.getD (s * 5 + m) 0).toNat 0] := by
 simp [Z2, List.range_succ]
theorem cs2 (X) : f7 (EX md0 X) (fun _ => none) 2 Tryd.f60 = true := by kernel_rfl
theorem bY0 {n : Nat} {N : List Int} {A : List Bool} (hw : WfD n N A) {c : List Nat} (hc : c.length = n) {s : Nat} (hs : s < n) : Ok Tryd.prog 60 [.fptr [.sl n (cI N), .sl n (cB A), .sl n (cI (nL c))], .int .i64 s] (.agg (cI (nL (u6 N c s)))) := by
 refine m5 (E := EX md0 (fun _ _ => none)) (cr := noR) (p9 _) (o8 _) mixed (k := 7) Tryd.func60 (cs2 _) rfl ?_
 have hn := hw.sz
 have hN := hw.l
 have h1 := be5 (l := c) (i := s) (s := 1) (by omega)
 obtain ⟨row, hrw', hrow, htl, hok, htt, hl5⟩ := aI8 hN hs
 simp only [Tryd.f60, Option.getD_some]
 simp (disch := omega) only [go_sem, h1, hl5, hrw', htl, hok, htt]
 refine u2 (fun m a o nx => ∃ j : Nat, j ≤ 5 ∧ m = 5 - j ∧ 2 ≤ nx ∧ a 0 = .fptr [.sl n (cI N), .sl n (cB A), .sl n (cI (nL c))] ∧ a 4 = .ptr (0, 4) (0, 4) 0 ∧ a 5 = .ptr (1, 5) (1, 5) 0 ∧ a 23 = .agg row ∧ a 24 = .int .i64 j ∧ o (0, 4) = some (.row ⟨110, 1, (0, 4), false, true, cI [0, 0, 0, 0, 0, 0]⟩) ∧ o (1, 5) = some (.row ⟨110, 1, (1, 5), false, true, cI (nL (Z2 N c s j) ++ List.replicate (6 - (j + 1)) 0)⟩)) 5 (by omega) ⟨0, by omega, by omega, by omega, by simp (disch := omega) only [go_sem], by simp (disch := omega) only [go_sem], by simp (disch := omega) only [go_sem], by simp (disch := omega) only [go_sem], by simp (disch := omega) only [go_sem], by simp [d6, cI], by simp [d6, Z2, nL, cI]⟩ ?_
 rintro m a o nx ⟨j, hj, rfl, hnx, ha0, ha4, ha5, ha23, ha24, o4, o5⟩
 by_cases hj5 : j < 5
 ·have hat := hrow j hj5
  have e1 := hw.get (k := s * 5 + j) (by omega)
  have hsucc := be8 N c s j
  obtain ⟨x, hx⟩ : ∃ x, x = N.getD (s * 5 + j) 0 := ⟨_, rfl⟩
  rw [← hx] at hat e1 hsucc
  have c1 := be5 (l := c) (i := x.toNat) (s := 1) (by omega)
  have hset := aP6 (Z2 N c s j) 6 (j + 1) (c.getD x.toNat 0) (aq6 N c s j) (by omega)
  rw [← hsucc] at hset
  have hj1 : (1 + (j : Int)).toNat = j + 1 := by omega
  have hl6 : (cI (nL (Z2 N c s j) ++ List.replicate (6 - (j + 1)) 0)).length = 6 := by rw [l5, List.length_append, A5, List.length_replicate, aq6]; omega
  simp (disch := omega) only [go_sem, ha0, ha4, ha5, ha23, ha24, o4, o5, hat, c1, hset, hj1, hl6]
  exact ⟨_, by omega, j + 1, by omega, rfl, rfl, rfl⟩
 ·have hj' : j = 5 := by omega
  subst hj'
  have hl6 : (cI (nL (Z2 N c s 5))).length = 6 := by rw [l5, A5, aq6]
  have htk : (cI (nL (Z2 N c s 5))).take 6 = cI (nL (Z2 N c s 5)) := j0 hl6
  have hok6 := as2 (nL (Z2 N c s 5))
  have hr : u6 N c s = Z2 N c s 5 := rfl
  rw [hr]
  rw [show 6 - (5 + 1) = 0 from rfl, List.replicate_zero, List.append_nil] at o5
  generalize Z2 N c s 5 = K at *
  simp (disch := omega) only [go_sem, ha0, ha4, ha5, ha23, ha24, o4, o5, hl6, htk, hok6]
  rw [show (cI [0, 0, 0, 0, 0, 0]).drop 6 = [] from rfl, List.append_nil, htk, T3]
theorem cs3 (X) : f7 (EX md0 X) (fun _ => none) 2 Tryd.f62 = true := by kernel_rfl
theorem bY1 {x y : List Int} (hx : x.length = 6) (hy : y.length = 6) : Ok Tryd.prog 62 [.agg (cI x), .fptr (cI y)] (.bool (decide (x = y))) := by
 refine m5 (E := EX md0 (fun _ _ => none)) (cr := noR) (p9 _) (o8 _) mixed (k := 0) Tryd.func62 (cs3 _) rfl ?_
 have he := bH5 hx hy
 have h1 : (cI x).length = 6 := by rw [l5, hx]
 have h2 : (cI y).length = 6 := by rw [l5, hy]
 have h3 : (cI x).take 6 = cI x := j0 h1
 have h4 : (cI y).take 6 = cI y := j0 h2
 have h5 := as2 x
 simp only [Tryd.f62, Option.getD_some]
 simp (disch := omega) only [go_sem, he, h1, h2, h3, h4, h5]
def kC (K : List (List Int)) : List AV := K.flatMap cI
theorem aJ0 {K : List (List Int)} (h : ∀ x ∈ K, x.length = 6) : (kC K).length = K.length * 6 := by
 induction K with
 | nil => rfl
 | cons x K ih =>
  have := ih (fun y hy => h y (List.mem_cons_of_mem _ hy))
  have hx := h x (List.mem_cons_self ..)
  simp only [kC, List.flatMap_cons, List.length_append, l5, List.length_cons] at this ⊢
  omega
theorem cs4 (x y) : kC (x ++ y) = kC x ++ kC y := by simp [kC]
theorem bY2 (o d K) : (kC K).map (view o d) = kC K := by
 induction K with
 | nil => rfl
 | cons x K ih =>
  have ih : (K.flatMap cI).map (view o d) = K.flatMap cI := ih
  rw [kC, List.flatMap_cons, List.map_append, T3, ih]
theorem cQ6 {K : List (List Int)} (h : ∀ x ∈ K, x.length = 6) {i : Nat} (hi : i < K.length) : ((kC K).drop (i * 6)).take 6 = cI (K.getD i []) ∧ 6 ≤ ((kC K).drop (i * 6)).length := by
 have hl := aJ0 h
 refine ⟨?_, by rw [List.length_drop, hl]; omega⟩
 induction K generalizing i with
 | nil => simp at hi
 | cons x K ih =>
  have hx := h x (List.mem_cons_self ..)
  have hK := fun y hy => h y (List.mem_cons_of_mem _ hy)
  cases i with
  | zero =>
   rw [kC, List.flatMap_cons, Nat.zero_mul, List.drop_zero, List.take_append_of_le_length (by rw [l5, hx]; exact Nat.le_refl _), j0 (by rw [l5, hx])]
   rfl
  | succ i =>
   have hi : i < K.length := by simpa using hi
   have := ih hK hi (aJ0 hK)
   rw [kC, List.flatMap_cons, show (i + 1) * 6 = (cI x).length + i * 6 by rw [l5, hx]; omega, List.drop_append]
   rw [List.drop_eq_nil_of_le (by omega), List.nil_append, Nat.add_sub_cancel_left]
   exact this
theorem bM3 : ∀ {K L : List (List Int)}, (∀ x ∈ K, x.length = 6) → (∀ x ∈ L, x.length = 6) → kC K = kC L → K = L
 | [], [], _, _, _ => rfl
 | [], y :: L, _, h, e => by
  have := congrArg List.length e
  rw [aJ0 h] at this
  simp [kC] at this
 | x :: K, [], h, _, e => by
  have := congrArg List.length e
  rw [aJ0 h] at this
  simp [kC] at this
 | x :: K, y :: L, h, h', e => by
  rw [kC, kC, List.flatMap_cons, List.flatMap_cons] at e
  have hl : (cI x).length = (cI y).length := by rw [l5, l5, h x (List.mem_cons_self ..), h' y (List.mem_cons_self ..)]
  obtain ⟨e1, e2⟩ := List.append_inj e hl
  rw [P1 e1, bM3 (fun z hz => h z (List.mem_cons_of_mem _ hz)) (fun z hz => h' z (List.mem_cons_of_mem _ hz)) e2]
def bH6 (K : List (List Int)) (y : List Int) : Int := match K.findIdx? (fun x => x == y) with
 | some k => (k : Int)
 | none => -1
def RF1 (args : List AV) (r : AV) : Prop := ∃ x y : List Int, x.length = 6 ∧ y.length = 6 ∧ args = [.agg (cI x), .fptr (cI y)] ∧ r = .bool (decide (x = y))
theorem cs5 : Q5 RF1 := by
 rintro args r r' ⟨x, y, _, _, rfl, rfl⟩ ⟨x', y', _, _, h, rfl⟩
 simp only [List.cons.injEq, AV.agg.injEq, AV.fptr.injEq, and_true] at h
 rw [P1 h.1, P1 h.2]
theorem cs6 (args r) (h : RF1 args r) : Ok Tryd.prog 62 args r := by obtain ⟨x, y, h1, h2, rfl, rfl⟩ := h; exact bY1 h1 h2
noncomputable def XF1 : FuncId → List AV → Option AV := p4 [(62, E3 RF1)]
theorem cs7 : m7 Tryd.prog XF1 := k0 (p9 _) (n5 cs6)
theorem cs8 {x y : List Int} (hx : x.length = 6) (hy : y.length = 6) : XF1 62 [.agg (cI x), .fptr (cI y)] = some (.bool (decide (x = y))) := m8 (R := RF1) cs5 ⟨_, _, hx, hy, rfl, rfl⟩
abbrev cF4 (y : List Int) : AV := .fn (.func 62) [] [.fptr (cI y)]
theorem cs9 : f7 (EX md0 XF1) (fun _ => none) 2 Tryd.f61 = true := by kernel_rfl
theorem bY3 {K : List (List Int)} (hK : ∀ x ∈ K, x.length = 6) (hl : K.length ≤ 100000) {y : List Int} (hy : y.length = 6) : Ok Tryd.prog 61 [.sl K.length (kC K), cF4 y] (.int .i64 (bH6 K y)) := by
 refine m5 (E := EX md0 XF1) (cr := noR) cs7 (o8 _) mixed (k := K.length + 1) Tryd.func61 cs9 rfl ?_
 simp only [Tryd.f61, Option.getD_some]
 simp (disch := omega) only [go_sem]
 refine u2 (fun m a o nx => ∃ i : Nat, i ≤ K.length ∧ m = K.length - i ∧ (∀ q, q < i → K.getD q [] ≠ y) ∧ a 0 = .sl K.length (kC K) ∧ a 1 = cF4 y ∧ a 7 = .int .i64 K.length ∧ a 8 = .int .i64 i) K.length (by omega) ⟨0, by omega, by omega, fun q hq => by omega, by simp (disch := omega) only [go_sem], by simp (disch := omega) only [go_sem], by simp (disch := omega) only [go_sem], by simp (disch := omega) only [go_sem]⟩ ?_
 rintro m a o nx ⟨i, hi, rfl, hno, ha0, ha1, ha7, ha8⟩
 by_cases hlt : i < K.length
 ·obtain ⟨h1, h2⟩ := cQ6 hK hlt
  have hxl : (K.getD i []).length = 6 := by
   rw [List.getD_eq_getElem?_getD, List.getElem?_eq_getElem hlt]
   exact hK _ (List.getElem_mem ..)
  have hf := cs8 hxl hy
  have hok := as2 (K.getD i [])
  have hl6 : (cI (K.getD i [])).length = 6 := by rw [l5, hxl]
  obtain ⟨z, hz⟩ : ∃ z, z = K.getD i [] := ⟨_, rfl⟩
  rw [← hz] at h1 hf hok hl6
  by_cases he : z = y
  ·have hidx : bH6 K y = i := by
    unfold bH6
    have : K.findIdx? (fun x => x == y) = some i := by
     rw [List.findIdx?_eq_some_iff_getElem]
     refine ⟨hlt, ?_, fun q hq => ?_⟩
     ·rw [hz] at he
      simpa [List.getD, hlt] using he
     ·have := hno q hq
      simpa [List.getD, show q < K.length by omega] using this
    rw [this]
   rw [decide_eq_true he] at hf
   rw [hidx]
   simp (disch := omega) only [go_sem, ha0, ha1, ha7, ha8, h1, h2, hf, hok, hl6]
  ·rw [decide_eq_false he] at hf
   have hno' : ∀ q, q < i + 1 → K.getD q [] ≠ y := fun q hq => by
    by_cases hqi : q = i
    ·rw [hqi, ← hz]; exact he
    ·exact hno q (by omega)
   simp (disch := omega) only [go_sem, ha0, ha1, ha7, ha8, h1, h2, hf, hok, hl6]
   exact ⟨_, by omega, i + 1, by omega, rfl, hno', rfl⟩
 ·have hidx : bH6 K y = -1 := by
   unfold bH6
   have : K.findIdx? (fun x => x == y) = none := by
    rw [List.findIdx?_eq_none_iff]
    intro x hx
    obtain ⟨q, hq, rfl⟩ := List.getElem_of_mem hx
    have := hno q (by omega)
    simpa [List.getD, hq] using this
   rw [this]
  rw [hidx]
  simp (disch := omega) only [go_sem, ha0, ha1, ha7, ha8]
end Go.Proofs.YtpmjpogcaglphaaDoor.A
