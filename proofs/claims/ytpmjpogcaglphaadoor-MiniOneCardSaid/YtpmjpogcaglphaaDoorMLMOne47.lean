/- The table of contracts for the laws of least machines that read no text. -/
import Derived.Test.YtpmjpogcaglphaaDoorMLMOne29
import Derived.Test.YtpmjpogcaglphaaDoorMLMOne43
import Derived.Test.YtpmjpogcaglphaaDoorMLMOne44
import Derived.Test.YtpmjpogcaglphaaDoorMLMOne46
set_option linter.unusedVariables false
set_option linter.unusedSimpArgs false
set_option linter.unnecessarySimpa false
namespace Go.Proofs.YtpmjpogcaglphaaDoor.A
open Go
set_option maxRecDepth 20000
abbrev dV (n : Nat) (N : List Int) (A : List Bool) : AV := .agg [.sl n (cI N), .sl n (cB A)]
theorem bT3 {n : Nat} {N : List Int} {A : List Bool} (h : A.length = n) : Z4 n N A = dV n N A := by rw [Z4, slB, h]
def dd0 (args : List AV) (r : AV) : Prop := ∃ (n : Nat) (N : List Int) (A : List Bool), WfD n N A ∧ args = [Z4 n N A] ∧ r = .bool true
def RRn (args : List AV) (r : AV) : Prop := ∃ (n : Nat) (N : List Int) (A : List Bool) (w : List Int), WfD n N A ∧ w.length ≤ 1000000 ∧ args = [Z4 n N A, slI w] ∧ r = .bool (ay6 n N A w)
noncomputable def XM0 : FuncId → List AV → Option AV := p4 [(14, A4 cI6), (15, A4 dB7), (16, A4 cr0), (18, A4 cr0), (17, A4 RSa), (27, A4 RSa), (19, A4 dq9), (20, A4 dq9), (21, A4 dd0), (31, A4 dA6), (32, A4 RRn), (29, A4 bp5), (30, A4 RW)]
theorem bT4 {n N A k M B} (h : WfD n N A) (h' : WfD k M B) : XM0 27 [dV n N A, dV k M B] = some (.bool (decide (A = B ∧ N = M))) := by
 rw [← bT3 h.a, ← bT3 h'.a]
 exact m5 (R := RSa) cI4 ⟨_, _, _, _, _, _, h.l, h'.l, by have := h.sz; omega, h.a, h'.a, rfl, rfl⟩
theorem bT5 (ns : List Int) (most few : Int) (h : 0 ≤ most ∧ most ≤ 1000) : XM0 29 [slI ns, .int .i64 most, .int .i64 few] = some (slI (E6 ns most few)) := m5 (R := bp5) bI4 ⟨_, _, _, h, rfl, rfl⟩
set_option maxRecDepth 20000
def cQ (l : List Ent) : List AV := l.flatMap fun e => [.int .i64 (e.x : Nat), .int .i64 (e.y : Nat), .int .i64 e.b, .int .i64 (e.m : Nat)]
@[go_sem] theorem bD7 (l : List Ent) : (cQ l).length = l.length * 4 := by
 induction l with
 | nil => rfl
 | cons p l ih => simp only [cQ, List.flatMap_cons, List.length_append, List.length_cons, List.length_nil] at ih ⊢; omega
theorem cI7 (x y) : cQ (x ++ y) = cQ x ++ cQ y := by simp [cQ]
@[go_sem] theorem dB8 (l : List Ent) : (cQ l).all p8 = true := by
 induction l with
 | nil => rfl
 | cons p l ih => simpa [cQ, p8] using ih
@[go_sem] theorem dd1 (o d l) : (cQ l).map (view o d) = cQ l := by
 induction l with
 | nil => rfl
 | cons p l ih => simpa [cQ, Y4] using ih
@[go_sem] theorem dd2 (o d l) : (cQ l).flatMap (b9 o d) = [] := by
 induction l with
 | nil => rfl
 | cons p l ih => simpa [cQ, Y5] using ih
@[go_sem] theorem dr2 (l) : (cQ l).take (l.length * 4) = cQ l := f7 (by rw [bD7])
theorem bT6 {l : List Ent} {i : Nat} {e : Ent} (h : l[i]? = some e) : (cQ l).drop (i * 4) = .int .i64 (e.x : Nat) :: .int .i64 (e.y : Nat) :: .int .i64 e.b :: .int .i64 (e.m : Nat) :: cQ (l.drop (i + 1)) := by
 induction l generalizing i with
 | nil => simp at h
 | cons p l ih =>
  cases i with
  | zero =>
   simp at h
   subst h
   rfl
  | succ i =>
   have := ih (i := i) (by simpa using h)
   have e2 : (i + 1) * 4 = i * 4 + 4 := by omega
   rw [e2]
   simpa [cQ] using this
structure BackL (l : List Ent) : Prop where
 head : l[0]? = some aF3
 back : ∀ (k : Nat) e, l[k]? = some e → 0 < k → ∃ (j : Nat) (f : Ent), e.b = (j : Int) ∧ j < k ∧ l[j]? = some f ∧ e.w = f.w ++ [e.m]
theorem QMid.backL {N A M B i l c} (h : QMid N A M B i l c) : BackL l := ⟨h.head, fun k e hk hp => by
 obtain ⟨j, f, h1, h2, _, h4, h5⟩ := h.back k e hk hp
 exact ⟨j, f, h1, h2, h4, h5⟩⟩
theorem BackL.case {l : List Ent} (h : BackL l) {k : Nat} {e : Ent} (he : l[k]? = some e) : (e.b < 0 ∧ e.w = []) ∨ ∃ (j : Nat) (f : Ent), e.b = (j : Int) ∧ j < k ∧ l[j]? = some f ∧ e.w = f.w ++ [e.m] := by
 by_cases hk : 0 < k
 ·exact .inr (h.back k e he hk)
 ·have : k = 0 := by omega
  subst this
  rw [h.head] at he
  injection he with he
  subst he
  exact .inl ⟨by decide, rfl⟩
theorem bD8 {l l' : List Ent} (h : cQ l = cQ l') {k : Nat} {e e' : Ent} (he : l[k]? = some e) (he' : l'[k]? = some e') : e.b = e'.b ∧ e.m = e'.m := by
 have h1 := bT6 he
 have h2 := bT6 he'
 rw [h, h2] at h1
 simp only [List.cons.injEq, AV.int.injEq, true_and] at h1
 exact ⟨h1.2.2.1.symm, by omega⟩
theorem aN1 {l l' : List Ent} (hb : BackL l) (hb' : BackL l') (h : cQ l = cQ l') : ∀ (n k : Nat) (e e' : Ent), k < n → l[k]? = some e → l'[k]? = some e' → e.w = e'.w
 | 0, k, _, _, hk, _, _ => by omega
 | n + 1, k, e, e', hk, he, he' => by
  obtain ⟨h1, h2⟩ := bD8 h he he'
  rcases hb.case he with ⟨a1, a2⟩ | ⟨j, f, a1, a2, a3, a4⟩ <;> rcases hb'.case he' with ⟨b1, b2⟩ | ⟨j', f', b1, b2, b3, b4⟩
  ·rw [a2, b2]
  ·omega
  ·omega
  ·have : j = j' := by omega
   subst this
   rw [a4, b4, h2, aN1 hb hb' h n j f f' (by omega) a3 b3]
theorem cl0 (X) : d9 (EX md0 X) (fun _ => none) 2 Tryd.f50 = true := by kernel_rfl
theorem cI8 {l : List Ent} (hb : BackL l) {i : Nat} {e : Ent} (he : l[i]? = some e) (hl : l.length ≤ 100000000) : Ok Tryd.prog 50 [.sl l.length (cQ l), .int .i64 i] (slI (nL e.w)) := by
 refine k0 (E := EX md0 (fun _ _ => none)) (cr := noR) (p7 _) (m6 _) mixed (k := i + 1) Tryd.func50 (cl0 _) rfl ?_
 have hil := (List.getElem?_eq_some_iff.1 he).1
 simp only [Tryd.f50, Option.getD_some]
 simp (disch := omega) only [go_sem]
 refine p9 (fun mm a o nx => ∃ (k : Nat) (f : Ent) (u : List Nat) (vO : AV), l[k]? = some f ∧ k ≤ i ∧ mm = k ∧ u.length + k ≤ i ∧ e.w = f.w ++ u ∧ HS 3 1 17 o nx vO u.length (cI (nL u)) ∧ a 0 = .sl l.length (cQ l) ∧ a 1 = .int .i64 k ∧ a 5 = vO) i (by omega) ⟨i, e, [], .nil, he, by omega, rfl, by simp, by simp, HS.nil, by simp (disch := omega) only [go_sem], by simp (disch := omega) only [go_sem], by simp (disch := omega) only [go_sem]⟩ ?_
 rintro mm a o nx ⟨k, f, u, vO, hf, hk, hmm, hul, hw, hO, h0, h1, h5⟩
 subst hmm
 have hkl := (List.getElem?_eq_some_iff.1 hf).1
 have hat := bT6 hf
 rcases hb.case hf with ⟨a1, a2⟩ | ⟨j, f', a1, a2, a3, a4⟩
 ·rw [a2, List.nil_append] at hw
  subst hw
  have a1' : ¬ 0 ≤ f.b := by omega
  have hv := hO.view 1011
  rw [N0] at hv
  have hlw := A1 e.w
  simp (disch := omega) only [go_sem, h0, h1, h5, hat, a1', hv]
  rw [slI, hlw]
 ·have a1' : 0 ≤ f.b := by omega
  have hw' : e.w = f'.w ++ (f.m :: u) := by rw [hw, a4, List.append_assoc]; rfl
  have hlu := A1 u
  rcases hO with ⟨rfl, h6, h7⟩ | ⟨i1, g, rfl, hi1, hro, hrl⟩
  ·have hu0 : u = [] := List.length_eq_zero_iff.1 h6
   subst hu0
   simp (disch := omega) only [go_sem, h0, h1, h5, hat, a1']
   exact ⟨j, by omega, j, f', [f.m], _, a3, by omega, rfl, by simp at hul ⊢; omega, hw', .inr ⟨nx + 1, (nx + 1, 19), rfl, by omega, by simp [d6, nL, cI], rfl⟩, by rw [a1], rfl⟩
  ·have htk : (cI (nL u)).take u.length = cI (nL u) := f7 (by rw [m4, A1])
   simp (disch := omega) only [go_sem, h0, h1, h5, hat, a1', hro, htk, hlu]
   exact ⟨j, by omega, j, f', f.m :: u, _, a3, by omega, rfl, by simp only [List.length_cons]; omega, hw', .inr ⟨nx + 1, (nx + 1, 19), rfl, by omega, by simp [d6, nL, cI], by simp [cI, nL]⟩, by rw [a1], by congr 1; simp only [List.length_cons]; omega⟩
set_option maxRecDepth 20000
def apV : Option (List Nat) → AV
 | none => .tup [.sl 0 [], .bool false]
 | some w => .tup [slI (nL w), .bool true]
theorem aN2 {N : List Int} {A : List Bool} {M : List Int} {B : List Bool} {r i : Nat} {l : List Ent} {res : Option (List Nat)} (h : bz1 N A M B r i l = some res) : ∃ r', r = r' + 1 ∧ ((l[i]? = none ∧ res = none) ∨ ∃ e, l[i]? = some e ∧ ((A.getD e.x false = B.getD e.y false ∧ bz1 N A M B r' (i + 1) (bk6 N M i e 5 l) = some res) ∨ (¬ A.getD e.x false = B.getD e.y false ∧ res = some e.w))) := by
 cases r with
 | zero => cases h
 | succ r =>
  refine ⟨r, rfl, ?_⟩
  rw [bz1] at h
  cases hx : l[i]? with
  | none =>
   rw [hx] at h
   injection h with h
   exact .inl ⟨rfl, h.symm⟩
  | some e =>
   rw [hx] at h
   have h : (if A.getD e.x false = B.getD e.y false then bz1 N A M B r (i + 1) (bk6 N M i e 5 l) else some (some e.w)) = some res := h
   refine .inr ⟨e, rfl, ?_⟩
   by_cases ha : A.getD e.x false = B.getD e.y false
   ·rw [if_pos ha] at h
    exact .inl ⟨ha, h⟩
   ·rw [if_neg ha] at h
    injection h with h
    exact .inr ⟨ha, h.symm⟩
def y6 (k : Nat) (l : List Ent) (x : Nat) : List Bool := (List.range k).map fun y => l.any fun p => p.x == x && p.y == y
theorem an2 (k l x) : (y6 k l x).length = k := by simp [y6]
theorem cl1 {k : Nat} {l : List Ent} {x y s : Nat} (hy : y < k) : L7 false s ((cB (y6 k l x)).drop y) = some (.bool (l.any fun p => p.x == x && p.y == y)) := by
 rw [R3 (by rw [an2]; exact hy)]
 unfold y6
 rw [List.getD_eq_getElem?_getD, List.getElem?_map, List.getElem?_range hy]
 rfl
theorem bc4 {k : Nat} {l : List Ent} {e : Ent} (hy : e.y < k) : s6 (cB (y6 k l e.x)) e.y [.bool true] = cB (y6 k (l ++ [e]) e.x) := by
 rw [aJ0 _ _ _ (by rw [an2]; exact hy)]
 congr 1
 refine List.ext_getElem (by simp [y6]) fun i h1 h2 => ?_
 simp only [y6, List.getElem_set, List.getElem_map, List.getElem_range, List.any_append, List.any_cons, List.any_nil, Bool.or_false, beq_self_eq_true, Bool.true_and]
 by_cases h : e.y = i
 ·rw [if_pos h, h]; simp
 ·rw [if_neg h]
  have : (e.y == i) = false := by simpa using h
  rw [this, Bool.or_false]
theorem bk1 {k : Nat} {l : List Ent} {e : Ent} {x : Nat} (hx : x ≠ e.x) : y6 k (l ++ [e]) x = y6 k l x := by
 unfold y6
 refine List.map_congr_left fun y _ => ?_
 have : (e.x == x) = false := by simpa using fun h : e.x = x => hx h.symm
 simp [List.any_append, this]
theorem bT7 (k x) : y6 k [] x = List.replicate k false := by
 refine List.ext_getElem (by simp [y6]) fun i h1 h2 => ?_
 simp [y6]
def U2 (ρ : Nat → Nat) (k : Nat) (n : Nat) : List AV := (List.range n).map fun x => .ref (ρ x, 31) (ρ x, 31) 0 k
theorem af5 (ρ k n) : (U2 ρ k n).length = n := by simp [U2]
theorem bD9 {ρ : Nat → Nat} {k n x s : Nat} (h : x < n) : L7 false s ((U2 ρ k n).drop x) = some (.ref (ρ x, 31) (ρ x, 31) 0 k) := by
 rw [Y3 (by rw [af5]; exact h)]
 simp [U2]
theorem bT8 {ρ ρ' : Nat → Nat} {k n : Nat} (h : ∀ x, x < n → ρ x = ρ' x) : U2 ρ k n = U2 ρ' k n := by
 unfold U2
 exact List.map_congr_left fun x hx => by rw [h x (List.mem_range.1 hx)]
theorem bE0 (ρ k n) : U2 ρ k (n + 1) = U2 ρ k n ++ [.ref (ρ n, 31) (ρ n, 31) 0 k] := by simp [U2, List.range_succ]
structure SeenAt (o : Ob) (nx n k : Nat) (ρ : Nat → Nat) (l : List Ent) : Prop where
 row : o (2, 19) = some (.row ⟨25, 1, (2, 19), false, true, U2 ρ k n⟩)
 rows : ∀ x, x < n → ρ x < nx ∧ o (ρ x, 31) = some (.row ⟨4, 1, (ρ x, 31), false, true, cB (y6 k l x)⟩)
 inj : ∀ x y, x < n → y < n → ρ x = ρ y → x = y
theorem SeenAt.keep {o nx n k ρ l} (h : SeenAt o nx n k ρ l) {o' : Ob} {nx' : Nat} (h2 : 3 ≤ nx) (hk : ∀ i j, i < nx → (j = 19 ∨ j = 31) → o' (i, j) = o (i, j)) (hn : nx ≤ nx') : SeenAt o' nx' n k ρ l :=
 ⟨by rw [hk 2 19 (by omega) (.inl rfl)]; exact h.row, fun x hx => by
  obtain ⟨h3, h4⟩ := h.rows x hx
  exact ⟨by omega, by rw [hk _ 31 h3 (.inr rfl)]; exact h4⟩, h.inj⟩
theorem SeenAt.add {o nx n k ρ l} (h : SeenAt o nx n k ρ l) {e : Ent} (hx : e.x < n) {o' : Ob} (hr : o' (2, 19) = o (2, 19)) (h1 : o' (ρ e.x, 31) = some (.row ⟨4, 1, (ρ e.x, 31), false, true, cB (y6 k (l ++ [e]) e.x)⟩)) (h2 : ∀ i, i < nx → i ≠ ρ e.x → o' (i, 31) = o (i, 31)) {nx' : Nat} (hn : nx ≤ nx') : SeenAt o' nx' n k ρ (l ++ [e]) :=
 ⟨by rw [hr]; exact h.row, fun x hxn => by
  obtain ⟨h3, h4⟩ := h.rows x hxn
  by_cases hxe : x = e.x
  ·subst hxe
   exact ⟨by omega, h1⟩
  ·exact ⟨by omega, by rw [h2 _ h3 (fun hc => hxe (h.inj x e.x hxn hx hc)), bk1 hxe]; exact h4⟩, h.inj⟩
def cQ8 (args : List AV) (r : AV) : Prop := ∃ (l : List Ent) (i : Nat) (e : Ent), BackL l ∧ l[i]? = some e ∧ l.length ≤ 100000000 ∧ args = [.sl l.length (cQ l), .int .i64 i] ∧ r = slI (nL e.w)
theorem cl2 : K5 cQ8 := by
 rintro args r r' ⟨l, i, e, h1, h2, _, rfl, rfl⟩ ⟨l', i', e', h1', h2', _, h, rfl⟩
 simp only [List.cons.injEq, AV.sl.injEq, AV.int.injEq, true_and, and_true] at h
 obtain ⟨⟨_, h3⟩, h4⟩ := h
 have : i = i' := by omega
 subst this
 rw [aN1 h1 h1' h3 (i + 1) i e e' (by omega) h2 h2']
theorem cl3 (args r) (h : cQ8 args r) : Ok Tryd.prog 50 args r := by obtain ⟨l, i, e, h1, h2, h3, rfl, rfl⟩ := h; exact cI8 h1 h2 h3
noncomputable def cQ9 : FuncId → List AV → Option AV := p4 [(50, A4 cQ8)]
theorem cl4 : m9 Tryd.prog cQ9 := f9 (p7 _) (l9 cl3)
theorem cl5 {l : List Ent} (hb : BackL l) {i : Nat} {e : Ent} (he : l[i]? = some e) (hl : l.length ≤ 100000000) : cQ9 50 [.sl l.length (cQ l), .int .i64 i] = some (slI (nL e.w)) := m5 (R := cQ8) cl2 ⟨_, _, _, hb, he, hl, rfl, rfl⟩
theorem cI9 : d9 (EX md0 cQ9) (fun _ => none) 2 Tryd.f26 = true := by kernel_rfl
theorem bT9 {L : List AV} {n i : Nat} (hL : L.length = i) (hi : i < n) (v : AV) : s6 (L ++ List.replicate (n - i) .nil) i [v] = L ++ [v] ++ List.replicate (n - (i + 1)) .nil := by
 rw [V8 _ _ _ (by rw [List.length_append, List.length_replicate]; omega), List.set_append, if_neg (by omega), hL, Nat.sub_self]
 obtain ⟨d, hd⟩ : ∃ d, n - i = d + 1 := ⟨n - i - 1, by omega⟩
 rw [hd, show n - (i + 1) = d by omega, List.replicate_succ]
 simp
set_option maxHeartbeats 8000000 in
theorem bE1 {n k : Nat} {N M : List Int} {A B : List Bool} (hw : WfD n N A) (hw' : WfD k M B) : Ok Tryd.prog 26 [Z4 n N A, Z4 k M B] (apV (bz3 N A M B)) := by
 refine k0 (E := EX md0 cQ9) (cr := noR) cl4 (m6 _) mixed (k := 4000010) Tryd.func26 cI9 rfl ?_
 have hO := hw.okD
 have hO' := hw'.okD
 have hA := hw.a
 have hB := hw'.a
 have hN := hw.l
 have hM := hw'.l
 have hn := hw.sz
 have hk := hw'.sz
 have hrun := (ba8 hO hO').1
 rw [hA, hB] at hrun
 generalize bz3 N A M B = res at *
 have hnk : n * k ≤ 4000000 := Nat.mul_le_mul hn.2 hk.2
 simp only [Tryd.f26, Option.getD_some]
 rw [Z4, slB, Z4, slB, hA, hB]
 simp (disch := omega) only [go_sem]
 refine p9 (fun mm a o nx => ∃ (i : Nat) (ρ : Nat → Nat), i ≤ n ∧ mm = n - i ∧ 3 ≤ nx ∧ (∀ x, x < i → 3 ≤ ρ x ∧ ρ x < nx ∧ o (ρ x, 31) = some (.row ⟨4, 1, (ρ x, 31), false, true, cB (y6 k [] x)⟩)) ∧ (∀ x y, x < i → y < i → ρ x = ρ y → x = y) ∧
   o (2, 19) = some (.row ⟨25, 1, (2, 19), false, true, U2 ρ k i ++ List.replicate (n - i) .nil⟩) ∧
   o (0, 2) = some (.row ⟨27, 1, (0, 2), false, true, [.sl n (cI N), .sl n (cB A)]⟩) ∧ o (0, 3) = some (.row ⟨27, 1, (0, 3), false, true, [.sl k (cI M), .sl k (cB B)]⟩) ∧ o (1, 15) = some (.row ⟨90, 4, (1, 15), false, true, cQ [aF3]⟩) ∧
   a 2 = .ptr (0, 2) (0, 2) 0 ∧ a 3 = .ptr (0, 3) (0, 3) 0 ∧ a 6 = .ref (1, 15) (1, 15) 0 1 ∧ a 7 = .ref (2, 19) (2, 19) 0 n ∧ a 8 = .int .i64 i) n (by omega)
  ⟨0, fun _ => 0, by omega, by omega, by omega, fun x h => by omega, fun x y h => by omega, ?_, by simp (disch := omega) only [go_sem], by simp (disch := omega) only [go_sem], ?_, by simp (disch := omega) only [go_sem], by simp (disch := omega) only [go_sem], by simp (disch := omega) only [go_sem], by simp (disch := omega) only [go_sem], by simp (disch := omega) only [go_sem]⟩ ?_
 ·simp (disch := omega) only [go_sem, aq7]
  simp [U2]
 ·simp (disch := omega) only [go_sem]
  rfl
 rintro mm a o nx ⟨i, ρ, hi, rfl, hnx, hrows, hinj, o19, o2, o3, o15, h2, h3, h6, h7, h8⟩
 by_cases hlt : i < n
 ·have hset := fun v => bT9 (af5 ρ k i) hlt v
  have hrl : (U2 ρ k i ++ List.replicate (n - i) AV.nil).length = n := by rw [List.length_append, af5, List.length_replicate]; omega
  simp (disch := omega) only [go_sem, h2, h3, h6, h7, h8, o19, o2, o3, o15, hset, hrl, G8]
  have hext : U2 (fun x => if x = i then nx + 1 else ρ x) k (i + 1) = U2 ρ k i ++ [.ref (nx + 1, 31) (nx + 1, 31) 0 k] := by
   rw [bE0, bT8 (ρ' := ρ) (fun x hx => if_neg (by omega))]
   simp
  refine ⟨n - (i + 1), by omega, i + 1, fun x => if x = i then nx + 1 else ρ x, by omega, rfl, fun x hx => ?_, fun x y hx hy hxy => ?_, by rw [hext], rfl⟩
  ·by_cases hxi : x = i
   ·simp only [hxi, if_true]
    exact ⟨by omega, by omega, by rw [bT7]⟩
   ·simp only [hxi, if_false]
    obtain ⟨a1, a2, a3⟩ := hrows x (by omega)
    exact ⟨a1, by omega, by rw [if_neg (by omega)]; exact a3⟩
  ·by_cases hxi : x = i <;> by_cases hyi : y = i
   ·omega
   ·simp only [hxi, hyi, if_true, if_false] at hxy
    have := (hrows y (by omega)).2.1
    omega
   ·simp only [hxi, hyi, if_true, if_false] at hxy
    have := (hrows x (by omega)).2.1
    omega
   ·simp only [hxi, hyi, if_false] at hxy
    exact hinj x y (by omega) (by omega) hxy
 ·have hie : i = n := by omega
  subst hie
  rw [Nat.sub_self, List.replicate_zero, List.append_nil] at o19
  have hS0 : SeenAt o nx i k ρ [] := ⟨o19, fun x hx => ⟨(hrows x hx).2.1, (hrows x hx).2.2⟩, hinj⟩
  have q0 := bD9 (ρ := ρ) (k := k) (n := i) (x := 0) (s := 1) (by omega)
  rw [List.drop_zero] at q0
  obtain ⟨h30, _, oρ⟩ := hrows 0 (by omega)
  have hs0 : s6 (cB (y6 k [] 0)) 0 [.bool true] = cB (y6 k ([] ++ [aF3]) 0) := bc4 (l := []) (e := aF3) (show (0 : Nat) < k by omega)
  have hl0 : (cB (y6 k [] 0)).length = k := by rw [z8, an2]
  have hrl : (U2 ρ k i).length = i := af5 ρ k i
  have hs0' : (.bool true) :: List.drop 1 (cB (y6 k [] 0)) = cB (y6 k ([] ++ [aF3]) 0) := by rw [← hs0, aP7]; rfl
  have hS1 : ∀ nx', nx ≤ nx' → SeenAt (upd o (ρ 0, 31) (.row ⟨4, 1, (ρ 0, 31), false, true, cB (y6 k ([] ++ [aF3]) 0)⟩)) nx' i k ρ [aF3] := fun nx' hn => hS0.add (e := aF3) (show (0 : Nat) < i by omega) (by simp [d6]) (by simp [d6, aF3]) (fun q _ hne => by rw [B2]; intro hc; injection hc with hc; exact hne hc) hn
  simp (disch := omega) only [go_sem, h2, h3, h6, h7, h8, o19, o2, o3, o15, q0, oρ, hs0, hs0', hl0, hrl]
  refine p9 (fun mm a o nx => ∃ (r j : Nat) (l : List Ent) (c : Nat) (g : Tag), bz1 N A M B r j l = some res ∧ mm = r ∧ j ≤ l.length ∧ QMid N A M B j l c ∧ (∀ e, l[j]? = some e → QMid N A M B j l (5 * J7 e.w + 1)) ∧ 3 ≤ nx ∧ SeenAt o nx i k ρ l ∧
    o (0, 2) = some (.row ⟨27, 1, (0, 2), false, true, [.sl i (cI N), .sl i (cB A)]⟩) ∧ o (0, 3) = some (.row ⟨27, 1, (0, 3), false, true, [.sl k (cI M), .sl k (cB B)]⟩) ∧ o (1, 15) = some (.row ⟨90, 4, g, false, true, cQ l⟩) ∧
    a 2 = .ptr (0, 2) (0, 2) 0 ∧ a 3 = .ptr (0, 3) (0, 3) 0 ∧ a 6 = .ref (1, 15) g 0 l.length ∧ a 7 = .ref (2, 19) (2, 19) 0 i ∧ a 9 = .int .i64 j) (i * k + 2) (by omega)
   ⟨i * k + 2, 0, [aF3], 1, (1, 15), hrun, rfl, by simp, QMid.start N A M B, fun e he => (by injection he with he; subst he; exact QMid.start N A M B), by omega, hS1 _ (by omega), by simp (disch := omega) only [go_sem, o2], by simp (disch := omega) only [go_sem, o3], by simp (disch := omega) only [go_sem, o15], by simp (disch := omega) only [go_sem, h2], by simp (disch := omega) only [go_sem, h3], by simp (disch := omega) only [go_sem, h6], by simp (disch := omega) only [go_sem, h7], by simp (disch := omega) only [go_sem]⟩ ?_
  clear h2 h3 h6 h7 h8 o2 o3 o15 o19 hrows hinj hS0 q0 oρ hs0 hl0 hrl hs0' hS1 hrun hnx
  rintro mm a o nx ⟨r, j, l, c, g, hp, rfl, hj, hq, hqn, hnx, hS, o2, o3, o15, h2, h3, h6, h7, h9⟩
  obtain ⟨r', rfl, hs⟩ := aN2 hp
  clear hp
  rcases hs with ⟨hx, hres⟩ | ⟨e, he, hs⟩
  ·subst hres
   have hje : j = l.length := by have := List.getElem?_eq_none_iff.1 hx; omega
   subst hje
   simp (disch := omega) only [go_sem, h2, h3, h6, h7, h9]
   rfl
  have hQ := hqn e he
  obtain ⟨hfew, hin⟩ := hQ.few hO hO'
  rw [hA, hB] at hfew
  obtain ⟨hex, hey⟩ := hin e (List.mem_of_getElem? he)
  rw [hA] at hex
  rw [hB] at hey
  have hlt := (List.getElem?_eq_some_iff.1 he).1
  have hat := bT6 he
  have ga := R3 (l := A) (i := e.x) (s := 1) (by omega)
  have gb := R3 (l := B) (i := e.y) (s := 1) (by omega)
  have hlc : l.length ≤ 4000000 := by omega
  rcases hs with ⟨hab, hp⟩ | ⟨hab, hres⟩
  ·have hbe : (A.getD e.x false == B.getD e.y false) = true := by rw [hab]; exact beq_self_eq_true _
   have hrow0 := fun m hm => aE2 hQ he hab m hm
   generalize A.getD e.x false = za at ga hbe
   generalize B.getD e.y false = zb at gb hbe
   simp (disch := omega) only [go_sem, h2, h3, h6, h7, h9, o2, o3, o15, hat, ga, gb, hbe, Bool.not_true]
   have hpre : SeenAt (upd (upd o (nx + 1, 10) (.row ⟨90, 1, (nx + 1, 10), false, true, [.int .i64 0, .int .i64 0, .int .i64 0, .int .i64 0]⟩)) (nx + 1, 10) (.row ⟨90, 1, (nx + 1, 10), false, true, [.int .i64 (e.x : Nat), .int .i64 (e.y : Nat), .int .i64 e.b, .int .i64 (e.m : Nat)]⟩)) (nx + 1 + 1 + 1 + 1) i k ρ l := hS.keep hnx (fun q s _ hs => by
    rw [B2, B2] <;> (intro hc; injection hc with _ hc; omega)) (by omega)
   refine p9 (fun mm a o' nx' => ∃ (m : Nat) (g' : Tag), m ≤ 5 ∧ mm = 5 - m ∧ nx + 3 ≤ nx' ∧ SeenAt o' nx' i k ρ (bk6 N M j e m l) ∧
     o' (0, 2) = some (.row ⟨27, 1, (0, 2), false, true, [.sl i (cI N), .sl i (cB A)]⟩) ∧ o' (0, 3) = some (.row ⟨27, 1, (0, 3), false, true, [.sl k (cI M), .sl k (cB B)]⟩) ∧ o' (1, 15) = some (.row ⟨90, 4, g', false, true, cQ (bk6 N M j e m l)⟩) ∧ o' (nx + 1, 10) = some (.row ⟨90, 1, (nx + 1, 10), false, true, [.int .i64 (e.x : Nat), .int .i64 (e.y : Nat), .int .i64 e.b, .int .i64 (e.m : Nat)]⟩) ∧
     a 2 = .ptr (0, 2) (0, 2) 0 ∧ a 3 = .ptr (0, 3) (0, 3) 0 ∧ a 6 = .ref (1, 15) g' 0 (bk6 N M j e m l).length ∧ a 7 = .ref (2, 19) (2, 19) 0 i ∧ a 9 = .int .i64 j ∧ a 10 = .ptr (nx + 1, 10) (nx + 1, 10) 0 ∧ a 11 = .int .i64 m) 5 (by omega)
    ⟨0, g, by omega, by omega, by omega, hpre, by simp (disch := omega) only [go_sem, o2], by simp (disch := omega) only [go_sem, o3], by simp (disch := omega) only [go_sem, o15]; rfl, by simp (disch := omega) only [go_sem], by simp (disch := omega) only [go_sem, h2], by simp (disch := omega) only [go_sem, h3], by simp (disch := omega) only [go_sem, h6]; rfl, by simp (disch := omega) only [go_sem, h7], by simp (disch := omega) only [go_sem, h9], by simp (disch := omega) only [go_sem], by simp (disch := omega) only [go_sem]⟩ ?_
   clear h2 h3 h6 h7 h9 o2 o3 o15 hS hpre hat ga gb hbe
   rintro mm a o' nx' ⟨m, g', hm, rfl, hnx', hS, o2, o3, o15, o10, h2, h3, h6, h7, h9, h10, h11⟩
   have hR := hrow0 m hm
   obtain ⟨hLf, _⟩ := hR.mid.few hO hO'
   rw [hA, hB] at hLf
   have hLc : (bk6 N M j e m l).length ≤ 4000000 := by omega
   by_cases hm5 : m < 5
   ·have hsucc : bk6 N M j e (m + 1) l = aL6 (bk6 N M j e m l) (aS8 N M j e m) := rfl
    have hx1 := hO.e (e.x * 5 + m) (by omega)
    have hy1 := hO'.e (e.y * 5 + m) (by omega)
    have hxn : (aS8 N M j e m).x < i := by rw [← hA]; exact hO.next (by omega) hm5
    have hyn : (aS8 N M j e m).y < k := by rw [← hB]; exact hO'.next (by omega) hm5
    have q1 : L7 false 1 (((cI N).drop (e.x * 5)).drop m) = some (.int .i64 ((aS8 N M j e m).x : Nat)) := by
     rw [List.drop_drop, Z8 (by omega)]
     show some (AV.int .i64 _) = some (.int .i64 (((N.getD (e.x * 5 + m) 0).toNat : Nat) : Int))
     rw [Int.toNat_of_nonneg hx1.1]
    have q2 : L7 false 1 (((cI M).drop (e.y * 5)).drop m) = some (.int .i64 ((aS8 N M j e m).y : Nat)) := by
     rw [List.drop_drop, Z8 (by omega)]
     show some (AV.int .i64 _) = some (.int .i64 (((M.getD (e.y * 5 + m) 0).toNat : Nat) : Int))
     rw [Int.toNat_of_nonneg hy1.1]
    have q3 := bD9 (ρ := ρ) (k := k) (n := i) (s := 1) hxn
    have q4 := fun L => cl1 (l := L) (x := (aS8 N M j e m).x) (s := 1) hyn
    have q5 := fun L => bc4 (l := L) (e := aS8 N M j e m) hyn
    have eb : (aS8 N M j e m).b = (j : Int) := rfl
    have em : (aS8 N M j e m).m = m := rfl
    have hadd := fun (o'' : Ob) => hS.add (e := aS8 N M j e m) hxn (o' := o'')
    have oρ := hS.rows _ hxn
    have hS19 := hS.row
    have hrl : (U2 ρ k i).length = i := af5 ρ k i
    generalize aS8 N M j e m = e' at *
    generalize bk6 N M j e m l = L at *
    have hsl : ∀ L, (cB (y6 k L e'.x)).length = k := fun L => by rw [z8, an2]
    have hcq : cQ (L ++ [e']) = cQ L ++ [.int .i64 (e'.x : Nat), .int .i64 (e'.y : Nat), .int .i64 (j : Nat), .int .i64 (m : Nat)] := by
     rw [cI7, ← em, ← eb]; rfl
    obtain ⟨hρ, oρ⟩ := oρ
    have q4 := q4 L
    cases hany : L.any (fun p => p.x == e'.x && p.y == e'.y) with
    | true =>
     rw [hany] at q4
     have hmet : aL6 L e' = L := by unfold aL6; rw [hany]; rfl
     rw [hmet] at hsucc
     simp (disch := omega) only [go_sem, h2, h3, h6, h7, h9, h10, h11, o2, o3, o15, o10, q1, q2, q3, q4, oρ, hS19, hsl, hrl, Bool.not_true]
     exact ⟨5 - (m + 1), by omega, m + 1, g', by omega, rfl, by omega, by rw [hsucc]; exact hS.keep (by omega) (fun _ _ _ _ => rfl) (by omega), by first | (rw [hsucc]; done) | (rw [hsucc]; exact o15), by rw [hsucc], rfl⟩
    | false =>
     rw [hany] at q4
     have hmet : aL6 L e' = L ++ [e'] := by unfold aL6; rw [hany]; rfl
     rw [hmet] at hsucc
     have q5 := q5 L
     simp (disch := omega) only [go_sem, h2, h3, h6, h7, h9, h10, h11, o2, o3, o15, o10, q1, q2, q3, q4, q5, oρ, hS19, hsl, hrl, Bool.not_false]
     refine ⟨5 - (m + 1), by omega, m + 1, (nx' + 1 + 1 + 1 + 1, 104), by omega, rfl, by omega, ?_, by rw [hsucc, hcq], by rw [hsucc]; simp, rfl⟩
     rw [hsucc]
     refine hadd _ (by simp [d6]) (by simp [d6]) (fun q _ hne => ?_) (by omega)
     rw [B2, B2, B2]
     ·intro hc; injection hc with hc; exact hne hc
     ·intro hc; injection hc with _ hc; omega
     ·intro hc; injection hc with _ hc; omega
   ·have hme : m = 5 := by omega
    subst hme
    simp (disch := omega) only [go_sem, h2, h3, h6, h7, h9, h10, h11]
    exact ⟨r', by omega, r', j + 1, _, _, g', hp, rfl, (List.getElem?_eq_some_iff.1 hR.at_).1, hR.done, hR.next, by omega, hS.keep (by omega) (fun _ _ _ _ => rfl) (by omega), o2, o3, o15, rfl, rfl⟩
  ·subst hres
   have hbe : (A.getD e.x false == B.getD e.y false) = false := beq_false_of_ne hab
   have hway := cl5 hQ.backL he (by omega)
   generalize A.getD e.x false = za at ga hbe
   generalize B.getD e.y false = zb at gb hbe
   simp (disch := omega) only [go_sem, h2, h3, h6, h7, h9, o2, o3, o15, hat, ga, gb, hbe, Bool.not_false, hway]
   rfl
def cR0 (args : List AV) (r : AV) : Prop := ∃ (n k : Nat) (N M : List Int) (A B : List Bool), WfD n N A ∧ WfD k M B ∧ args = [Z4 n N A, Z4 k M B] ∧ r = apV (bz3 N A M B)
theorem cl6 : K5 cR0 := by
 rintro args r r' ⟨n, k, N, M, A, B, _, _, rfl, rfl⟩ ⟨n', k', N', M', A', B', _, _, h, rfl⟩
 simp only [List.cons.injEq, and_true] at h
 obtain ⟨_, h1, h2⟩ := ad4 h.1
 obtain ⟨_, h3, h4⟩ := ad4 h.2
 rw [h1, h2, h3, h4]
theorem bU0 (args r) (h : cR0 args r) : Ok Tryd.prog 26 args r := by obtain ⟨n, k, N, M, A, B, h1, h2, rfl, rfl⟩ := h; exact bE1 h1 h2
set_option maxRecDepth 20000
theorem bc5 {l : List Ent} (hb : BackL l) : ∀ (n k : Nat) (e : Ent), k < n → l[k]? = some e → e.w.length ≤ k
 | 0, k, _, hk, _ => by omega
 | n + 1, k, e, hk, he => by
  rcases hb.case he with ⟨_, a2⟩ | ⟨j, f, _, a2, a3, a4⟩
  ·rw [a2]; exact Nat.zero_le _
  ·have := bc5 hb n j f (by omega) a3
   rw [a4, List.length_append]
   simp
   omega
theorem bc6 {N A M B} (hA : OkD N A) (hB : OkD M B) : ∀ (r i : Nat) (l : List Ent) (c : Nat), QMid N A M B i l c → (∀ e, l[i]? = some e → QMid N A M B i l (5 * J7 e.w + 1)) → ∀ w, bz1 N A M B r i l = some (some w) → w.length ≤ A.length * B.length
 | 0, i, l, c, _, _, w, h => by cases h
 | r + 1, i, l, c, hq, hqn, w, h => by
  obtain ⟨r', hr, hs⟩ := aN2 h
  have hr : r = r' := by omega
  subst hr
  rcases hs with ⟨_, hres⟩ | ⟨e, he, hs⟩
  ·cases hres
  ·have hQ := hqn e he
   rcases hs with ⟨hab, hp⟩ | ⟨_, hres⟩
   ·have hR := aE2 hQ he hab 5 (Nat.le_refl _)
    exact bc6 hA hB r (i + 1) _ _ hR.done hR.next w hp
   ·injection hres with hres
    subst hres
    have h1 := bc5 hQ.backL (i + 1) i e (by omega) he
    have h2 := (hQ.few hA hB).1
    have h3 := (List.getElem?_eq_some_iff.1 he).1
    omega
theorem cl7 {N A M B} (hA : OkD N A) (hB : OkD M B) {w : List Nat} (h : bz3 N A M B = some w) : w.length ≤ A.length * B.length := by
 have h1 := (ba8 hA hB).1
 rw [h] at h1
 exact bc6 hA hB _ 0 [aF3] 1 (QMid.start N A M B) (fun e he => by
  injection he with he
  subst he
  exact QMid.start N A M B) w h1
end Go.Proofs.YtpmjpogcaglphaaDoor.A
