/- l4 part and Make: contracts. UNDER WAY. -/
import Derived.Test.YtpmjpogcaglphaaDoorMLMOther8
set_option linter.unusedVariables false
set_option linter.unusedSimpArgs false
set_option linter.unnecessarySimpa false
namespace Go.Proofs.YtpmjpogcaglphaaDoor.A
open Go
set_option maxRecDepth 20000
theorem bj8 (x : Int) : IntKind.u64.wrap (x % 5) = x % 5 := IntWalk.u64_in _ (by have := Int.emod_nonneg x (show (5 : Int) ≠ 0 by decide); have := Int.emod_lt_of_pos x (show (0 : Int) < 5 by decide); omega)
def RMk (l : List Rw) (args : List AV) (r : AV) : Prop := ∃ i, i < l.length ∧ args = [aE8 (l.getD i default)] ∧ r = j5 (aa8 (l.getD i default))
theorem cr4 (l) : N1 (RMk l) := by
 rintro args r r' ⟨i, _, rfl, rfl⟩ ⟨j, _, h, rfl⟩
 simp only [List.cons.injEq, AV.agg.injEq, and_true] at h
 rw [aL6 h]
theorem bA4 (X) : d6 (EX md0 X) (fun _ => none) 2 Tryd.f65 = true := by kernel_rfl
theorem bU7 (k n : Int) (l : List Rw) (hch : ∀ i, i < l.length → Ok Tryd.prog 44 [aE8 (l.getD i default)] (j5 (aa8 (l.getD i default)))) (i : Nat) (hi : i ≤ 1000000) :
  Ok Tryd.prog 65 [aE8 (.mk k n l), .int .i64 i] (j5 (A2 n (s7 l) i)) := by
 refine j7 (E := EX md0 (n7 [(44, w9 (RMk l)), (64, w9 RW)])) (cr := noR) (f9 (f9 (m7 _) (k0 au8)) (k0 (fun args r h => by obtain ⟨i, hi, rfl, rfl⟩ := h; exact hch i hi))) (m5 _) mixed (k := 0) Tryd.func65 (bA4 _) rfl ?_
 have hmk : ∀ j, j < l.length → n7 [(44, w9 (RMk l)), (64, w9 RW)] 44 [aE8 (l.getD j default)] = some (j5 (aa8 (l.getD j default))) := fun j hj => l5 (cr4 l) ⟨j, hj, rfl, rfl⟩
 have hwi : ∀ a m : Int, 0 < m → m ≤ 1000000 → n7 [(44, w9 (RMk l)), (64, w9 RW)] 64 [.int .i64 a, .int .i64 m] = some (.int .i64 (a % m)) := fun a m h1 h2 => bT7 h1 h2
 simp only [Tryd.f65, Option.getD_some]
 by_cases hlt : i < l.length
 ·have hat := bj5 hlt
  have e : A2 n (s7 l) i = aa8 (l.getD i default) := by rw [A2, A8, if_pos hlt, aZ1 hlt]
  rw [e]
  have hm := hmk i hlt
  simp (disch := omega) only [go_sem, hat, hm]
 ·have e : A2 n (s7 l) i = .mk 1 (bj7 (IntKind.i64.wrap (n + i))) 0 0 [] := by rw [A2, A8, if_neg hlt]
  rw [e]
  have hs := bj8 (IntKind.i64.wrap (n + i))
  have hs0 := Int.emod_nonneg (IntKind.i64.wrap (n + i)) (show (5 : Int) ≠ 0 by decide)
  simp (disch := omega) only [go_sem, hwi, hs]
  simp only [j5, o8, bj7, slN, p8, List.length_nil]
def bv9 : Nat → Option (List (Nat × Nat))
 | 17 => some [(1, 4), (1, 5)]
 | 25 => some [(1, 4), (1, 5)]
 | _ => none
theorem ay2 (n : Nat) : 2 ≤ I1 n ∧ I1 n ≤ 4 := by unfold I1; split <;> (try split) <;> omega
theorem aS2 {n i : Nat} (h : i < I1 n) : i < 2 ∨ (2 ≤ i ∧ i < n ∧ i < 4) := by unfold I1 at h; split at h <;> (try split at h) <;> omega
theorem an7 (k n : Int) (l : List Rw) (hpart : ∀ i : Nat, i ≤ 1000000 → Ok Tryd.prog 65 [aE8 (.mk k n l), .int .i64 i] (j5 (A2 n (s7 l) i))) (X : FuncId → List AV → Option AV)
  (hX : ∀ i : Nat, i ≤ 1000000 → X 65 [aE8 (.mk k n l), .int .i64 i] = some (j5 (A2 n (s7 l) i))) (kind : Int) {Q : m4} (a : n9) (o : Ob) (nx st : Nat) (hst : st < nx) (hst2 : 2 ≤ st)
  (h1 : a 1 = .ptr (0, 1) (0, 1) 0) (h2 : a 2 = .ptr (0, 2) (0, 2) 0) (h3 : a 3 = .ptr (st, 3) (st, 3) 0) (h4 : a 4 = .int .i64 0)
  (ho1 : o (0, 1) = some (.row ⟨75, 1, (0, 1), false, true, cRw (.mk k n l)⟩)) (ho2 : ∃ x, o (0, 2) = some (.row ⟨37, 1, (0, 2), false, true, x⟩) ∧ x.length = 5) (ho3 : o (st, 3) = some (.row ⟨37, 1, (st, 3), false, true, [.int .i64 kind, .int .i64 0, .int .i64 0, .int .i64 0, .nil]⟩))
  (hQ : ∀ a o nx, a 2 = .ptr (0, 2) (0, 2) 0 → (∃ v, o (0, 2) = some (.row ⟨37, 1, (0, 2), false, true, [.int .i64 kind, .int .i64 0, .int .i64 0, .int .i64 0, v]⟩) ∧ HS 37 5 63 o nx v (I1 l.length) (L8 ((List.range (I1 l.length)).map (A2 n (s7 l))))) → Q .ret a o nx) :
  WP (EX md0 X) noR 10 bv9 (y4 [1, 0, 1, 0, 1, 1, 1, 1, 1, 1, 1, 0, 1, 0, 1, 0] (Tryd.f44.body.getD .skip)) a o nx (L0 1 (ax2 (EX md0 X) noR 10 bv9 (y4 [1, 0, 1, 0, 1, 1, 1, 1, 1, 1, 1, 0, 1, 1] (Tryd.f44.body.getD .skip)) Q)) := by
 simp only [Tryd.f44, Option.getD_some, y4]
 have hc := ay2 l.length
 refine m9 (fun m a o nx => ∃ i v, i ≤ I1 l.length ∧ m = I1 l.length - i ∧ st < nx ∧ a 1 = .ptr (0, 1) (0, 1) 0 ∧ a 2 = .ptr (0, 2) (0, 2) 0 ∧ a 3 = .ptr (st, 3) (st, 3) 0 ∧ a 4 = .int .i64 i ∧ HS 37 5 63 o nx v i (L8 ((List.range i).map (A2 n (s7 l)))) ∧
  o (0, 1) = some (.row ⟨75, 1, (0, 1), false, true, cRw (.mk k n l)⟩) ∧ (∃ x, o (0, 2) = some (.row ⟨37, 1, (0, 2), false, true, x⟩) ∧ x.length = 5) ∧ o (st, 3) = some (.row ⟨37, 1, (st, 3), false, true, [.int .i64 kind, .int .i64 0, .int .i64 0, .int .i64 0, v]⟩)) (I1 l.length) ?_ ⟨0, .nil, by omega, by omega, by omega, h1, h2, h3, h4, HS.nil, ho1, ho2, ho3⟩ ?_
 ·omega
 ·clear h1 h2 h3 h4 ho1 ho2 ho3
  rintro m a o nx ⟨i, v, hi, rfl, hnx, h1, h2, h3, h4, hHS, ho1, ⟨x, ho2, hx5⟩, ho3⟩
  have hok := hHS.ok
  by_cases hlt : i < I1 l.length
  ·have hcond : i < 2 ∨ (2 ≤ i ∧ i < l.length ∧ i < 4) := aS2 hlt
   have hp := hX i (by omega)
   simp only [aE8, j5, X0] at hp
   have hsn : (List.range (i + 1)).map (A2 n (s7 l)) = (List.range i).map (A2 n (s7 l)) ++ [A2 n (s7 l) i] := by rw [List.range_succ, List.map_append]; rfl
   rcases hHS with ⟨rfl, e2, e3⟩ | ⟨i1, g1, rfl, hi1, hrow, hlen⟩
   ·rcases hcond with c | ⟨c1, c2, c3⟩
    ·simp (disch := omega) only [go_sem, h1, h2, h3, h4, ho1, ho2, ho3, hp, bv9]
     refine ⟨_, ?_, i + 1, _, by omega, rfl, by omega, rfl, ?_, ⟨x, rfl, hx5⟩, rfl⟩
     ·omega
     ·rw [hsn, V9, C7, List.map_eq_nil_iff.2 (List.length_eq_zero_iff.1 (by rw [List.length_range]; exact e2)), p8]
      exact .inr ⟨nx + 1, _, by rw [e2], by omega, by simp [b8], by rw [List.nil_append, w8, e2]⟩
    ·omega
   ·obtain ⟨cs, hcs⟩ : ∃ cs, cs = L8 ((List.range i).map (A2 n (s7 l))) := ⟨_, rfl⟩
    rw [← hcs] at hrow hlen
    have htk : cs.take (i * 5) = cs := d9 hlen
    have hfin : ∀ o' nx', o' (i1, 63) = some (.row ⟨37, 5, (nx + 1, 63), false, true, cs ++ cNd (A2 n (s7 l) i)⟩) → i1 < nx' → HS 37 5 63 o' nx' (.ref (i1, 63) (nx + 1, 63) 0 (i + 1)) (i + 1) (L8 ((List.range (i + 1)).map (A2 n (s7 l)))) := by
     intro o' nx' h h'
     rw [hsn, V9, C7, ← hcs]
     exact .inr ⟨i1, _, rfl, h', h, by rw [List.length_append, w8, hlen]; omega⟩
    rcases hcond with c | ⟨c1, c2, c3⟩
    all_goals
     simp (disch := omega) only [go_sem, h1, h2, h3, h4, ho1, ho2, ho3, hp, hrow, bv9, hlen, htk]
     refine ⟨_, ?_, i + 1, _, by omega, rfl, by omega, rfl, hfin _ _ ?_ (by omega), ⟨x, rfl, hx5⟩, rfl⟩
     ·omega
     ·simp [b8]
  ·have hie : i = I1 l.length := by omega
   have hc1 : ¬ i < 2 := by omega
   have hx0 : x.drop 5 = [] := List.drop_of_length_le (by omega)
   by_cases c2 : i < l.length
   ·have c3 : ¬ i < 4 := by have := hie; unfold I1 at this; split at this <;> (try split at this) <;> omega
    simp (disch := omega) only [go_sem, h1, h2, h3, h4, ho1, ho2, ho3, hc1, hok]
    exact hQ _ _ _ (by simp [ax5, h2]) ⟨v, by rw [f6, hx0], by rw [← hie]; exact hHS.keep (fun _ _ => by simp [b8]) (by omega)⟩
   ·simp (disch := omega) only [go_sem, h1, h2, h3, h4, ho1, ho2, ho3, hc1, hok]
    exact hQ _ _ _ (by simp [ax5, h2]) ⟨v, by rw [f6, hx0], by rw [← hie]; exact hHS.keep (fun _ _ => by simp [b8]) (by omega)⟩
theorem av1 (k n : Int) (l : List Rw) (hpart : ∀ i : Nat, i ≤ 1000000 → Ok Tryd.prog 65 [aE8 (.mk k n l), .int .i64 i] (j5 (A2 n (s7 l) i))) (X : FuncId → List AV → Option AV)
  (hX : ∀ i : Nat, i ≤ 1000000 → X 65 [aE8 (.mk k n l), .int .i64 i] = some (j5 (A2 n (s7 l) i))) (kind : Int) {Q : m4} (a : n9) (o : Ob) (nx st : Nat) (hst : st < nx) (hst2 : 2 ≤ st)
  (h1 : a 1 = .ptr (0, 1) (0, 1) 0) (h2 : a 2 = .ptr (0, 2) (0, 2) 0) (h3 : a 5 = .ptr (st, 5) (st, 5) 0) (h4 : a 6 = .int .i64 0)
  (ho1 : o (0, 1) = some (.row ⟨75, 1, (0, 1), false, true, cRw (.mk k n l)⟩)) (ho2 : ∃ x, o (0, 2) = some (.row ⟨37, 1, (0, 2), false, true, x⟩) ∧ x.length = 5) (ho3 : o (st, 5) = some (.row ⟨37, 1, (st, 5), false, true, [.int .i64 kind, .int .i64 0, .int .i64 0, .int .i64 0, .nil]⟩))
  (hQ : ∀ a o nx, a 2 = .ptr (0, 2) (0, 2) 0 → (∃ v, o (0, 2) = some (.row ⟨37, 1, (0, 2), false, true, [.int .i64 kind, .int .i64 0, .int .i64 0, .int .i64 0, v]⟩) ∧ HS 37 5 91 o nx v (I1 l.length) (L8 ((List.range (I1 l.length)).map (A2 n (s7 l))))) → Q .ret a o nx) :
  WP (EX md0 X) noR 10 bv9 (y4 [1, 0, 1, 0, 1, 1, 1, 1, 1, 1, 1, 1, 1, 0, 1, 0, 1, 0] (Tryd.f44.body.getD .skip)) a o nx (L0 3 (ax2 (EX md0 X) noR 10 bv9 (y4 [1, 0, 1, 0, 1, 1, 1, 1, 1, 1, 1, 1, 1, 0, 1, 1] (Tryd.f44.body.getD .skip)) Q)) := by
 simp only [Tryd.f44, Option.getD_some, y4]
 have hc := ay2 l.length
 refine m9 (fun m a o nx => ∃ i v, i ≤ I1 l.length ∧ m = I1 l.length - i ∧ st < nx ∧ a 1 = .ptr (0, 1) (0, 1) 0 ∧ a 2 = .ptr (0, 2) (0, 2) 0 ∧ a 5 = .ptr (st, 5) (st, 5) 0 ∧ a 6 = .int .i64 i ∧ HS 37 5 91 o nx v i (L8 ((List.range i).map (A2 n (s7 l)))) ∧
  o (0, 1) = some (.row ⟨75, 1, (0, 1), false, true, cRw (.mk k n l)⟩) ∧ (∃ x, o (0, 2) = some (.row ⟨37, 1, (0, 2), false, true, x⟩) ∧ x.length = 5) ∧ o (st, 5) = some (.row ⟨37, 1, (st, 5), false, true, [.int .i64 kind, .int .i64 0, .int .i64 0, .int .i64 0, v]⟩)) (I1 l.length) ?_ ⟨0, .nil, by omega, by omega, by omega, h1, h2, h3, h4, HS.nil, ho1, ho2, ho3⟩ ?_
 ·omega
 ·clear h1 h2 h3 h4 ho1 ho2 ho3
  rintro m a o nx ⟨i, v, hi, rfl, hnx, h1, h2, h3, h4, hHS, ho1, ⟨x, ho2, hx5⟩, ho3⟩
  have hok := hHS.ok
  by_cases hlt : i < I1 l.length
  ·have hcond : i < 2 ∨ (2 ≤ i ∧ i < l.length ∧ i < 4) := aS2 hlt
   have hp := hX i (by omega)
   simp only [aE8, j5, X0] at hp
   have hsn : (List.range (i + 1)).map (A2 n (s7 l)) = (List.range i).map (A2 n (s7 l)) ++ [A2 n (s7 l) i] := by rw [List.range_succ, List.map_append]; rfl
   rcases hHS with ⟨rfl, e2, e3⟩ | ⟨i1, g1, rfl, hi1, hrow, hlen⟩
   ·rcases hcond with c | ⟨c1, c2, c3⟩
    ·simp (disch := omega) only [go_sem, h1, h2, h3, h4, ho1, ho2, ho3, hp, bv9]
     refine ⟨_, ?_, i + 1, _, by omega, rfl, by omega, rfl, ?_, ⟨x, rfl, hx5⟩, rfl⟩
     ·omega
     ·rw [hsn, V9, C7, List.map_eq_nil_iff.2 (List.length_eq_zero_iff.1 (by rw [List.length_range]; exact e2)), p8]
      exact .inr ⟨nx + 1, _, by rw [e2], by omega, by simp [b8], by rw [List.nil_append, w8, e2]⟩
    ·omega
   ·obtain ⟨cs, hcs⟩ : ∃ cs, cs = L8 ((List.range i).map (A2 n (s7 l))) := ⟨_, rfl⟩
    rw [← hcs] at hrow hlen
    have htk : cs.take (i * 5) = cs := d9 hlen
    have hfin : ∀ o' nx', o' (i1, 91) = some (.row ⟨37, 5, (nx + 1, 91), false, true, cs ++ cNd (A2 n (s7 l) i)⟩) → i1 < nx' → HS 37 5 91 o' nx' (.ref (i1, 91) (nx + 1, 91) 0 (i + 1)) (i + 1) (L8 ((List.range (i + 1)).map (A2 n (s7 l)))) := by
     intro o' nx' h h'
     rw [hsn, V9, C7, ← hcs]
     exact .inr ⟨i1, _, rfl, h', h, by rw [List.length_append, w8, hlen]; omega⟩
    rcases hcond with c | ⟨c1, c2, c3⟩
    all_goals
     simp (disch := omega) only [go_sem, h1, h2, h3, h4, ho1, ho2, ho3, hp, hrow, bv9, hlen, htk]
     refine ⟨_, ?_, i + 1, _, by omega, rfl, by omega, rfl, hfin _ _ ?_ (by omega), ⟨x, rfl, hx5⟩, rfl⟩
     ·omega
     ·simp [b8]
  ·have hie : i = I1 l.length := by omega
   have hc1 : ¬ i < 2 := by omega
   have hx0 : x.drop 5 = [] := List.drop_of_length_le (by omega)
   by_cases c2 : i < l.length
   ·have c3 : ¬ i < 4 := by have := hie; unfold I1 at this; split at this <;> (try split at this) <;> omega
    simp (disch := omega) only [go_sem, h1, h2, h3, h4, ho1, ho2, ho3, hc1, hok]
    exact hQ _ _ _ (by simp [ax5, h2]) ⟨v, by rw [f6, hx0], by rw [← hie]; exact hHS.keep (fun _ _ => by simp [b8]) (by omega)⟩
   ·simp (disch := omega) only [go_sem, h1, h2, h3, h4, ho1, ho2, ho3, hc1, hok]
    exact hQ _ _ _ (by simp [ax5, h2]) ⟨v, by rw [f6, hx0], by rw [← hie]; exact hHS.keep (fun _ _ => by simp [b8]) (by omega)⟩
set_option maxRecDepth 20000
def bU8 (k n : Int) (l : List Rw) (args : List AV) (r : AV) : Prop := ∃ i : Nat, i ≤ 1000000 ∧ args = [aE8 (.mk k n l), .int .i64 i] ∧ r = j5 (A2 n (s7 l) i)
theorem bA5 (k n l) : N1 (bU8 k n l) := by
 rintro args r r' ⟨i, _, rfl, rfl⟩ ⟨j, _, h, rfl⟩
 simp only [List.cons.injEq, AV.int.injEq, and_true, true_and] at h
 rw [Int.ofNat_inj.1 h]
theorem bA6 (X) : d6 (EX md0 X) bv9 10 Tryd.f44 = true := by kernel_rfl
theorem bA7 (k n : Int) (l : List Rw) (hpart : ∀ i : Nat, i ≤ 1000000 → Ok Tryd.prog 65 [aE8 (.mk k n l), .int .i64 i] (j5 (A2 n (s7 l) i))) :
  Ok Tryd.prog 44 [aE8 (.mk k n l)] (j5 (G0 k n (s7 l))) := by
 refine j7 (E := EX md0 (n7 [(65, w9 (bU8 k n l)), (64, w9 RW)])) (cr := noR) (f9 (f9 (m7 _) (k0 au8)) (k0 (fun args r h => by obtain ⟨i, hi, rfl, rfl⟩ := h; exact hpart i hi))) (m5 _) mixed (k := 10) Tryd.func44 (bA6 _) rfl ?_
 obtain ⟨X, hX⟩ : ∃ X, X = n7 [(65, w9 (bU8 k n l)), (64, w9 RW)] := ⟨_, rfl⟩
 have hp : ∀ j : Nat, j ≤ 1000000 → X 65 [aE8 (.mk k n l), .int .i64 j] = some (j5 (A2 n (s7 l) j)) := fun j hj => by rw [hX]; exact l5 (bA5 k n l) ⟨j, hj, rfl, rfl⟩
 have hwi : ∀ a m : Int, 0 < m → m ≤ 1000000 → X 64 [.int .i64 a, .int .i64 m] = some (.int .i64 (a % m)) := fun a m h1 h2 => by rw [hX]; exact bT7 h1 h2
 rw [← hX]
 clear hX
 simp only [Tryd.f44, Option.getD_some]
 have hk0 := Int.emod_nonneg k (show (14 : Int) ≠ 0 by decide)
 have hk1 := Int.emod_lt_of_pos k (show (0 : Int) < 14 by decide)
 have h31 := Int.emod_nonneg n (show (31 : Int) ≠ 0 by decide)
 have h31' := Int.emod_lt_of_pos n (show (0 : Int) < 31 by decide)
 have hp0 : X 65 [.agg [.int .i64 k, .int .i64 n, .sl l.length (aE7 l)], .int .i64 0] = some (.agg (cNd (A2 n (s7 l) 0))) := by
  have := hp 0 (by omega)
  rw [aE8, j5, X0] at this
  exact this
 have hk : k % 14 = 0 ∨ k % 14 = 1 ∨ k % 14 = 2 ∨ k % 14 = 3 ∨ k % 14 = 4 ∨ k % 14 = 5 ∨ k % 14 = 6 ∨ k % 14 = 7 ∨ k % 14 = 8 ∨ k % 14 = 9 ∨ k % 14 = 10 ∨ k % 14 = 11 ∨ k % 14 = 12 ∨ k % 14 = 13 := by omega
 rcases hk with e | e | e | e | e | e | e | e | e | e | e | e | e | e
 ·simp (disch := omega) only [go_sem, hwi, e, G0]
  simp only [j5, o8, bj7, slN, p8, List.length_nil]
 ·simp (disch := omega) only [go_sem, hwi, e, G0]
  simp only [j5, o8, bj7, slN, p8, List.length_nil]
 ·simp (disch := omega) only [go_sem, hwi, e, G0]
  simp only [j5, o8, bj7, slN, p8, List.length_nil]
 ·simp (disch := omega) only [go_sem, hwi, e, G0]
  simp only [j5, o8, bj7, slN, p8, List.length_nil]
 ·have h3 : n % 3 = 0 ∨ n % 3 = 1 ∨ n % 3 = 2 := by omega
  rcases h3 with e3 | e3 | e3
  all_goals
   simp (disch := omega) only [go_sem, hwi, e, e3, G0]
   simp only [j5, o8, slN, p8, List.length_nil]
 ·simp (disch := omega) only [go_sem, hwi, e, G0]
  refine an7 k n l hpart X hp 4 _ _ _ _ (by omega) (by omega) rfl rfl rfl rfl rfl ⟨_, rfl, rfl⟩ rfl ?_
  rintro a o nx h2 ⟨v, ho2, hHS⟩
  simp (disch := omega) only [go_sem, h2, ho2]
  rw [hHS.view, j5, o8, slN, List.length_map, List.length_range, A8, P6]
 ·simp (disch := omega) only [go_sem, hwi, e, G0]
  refine an7 k n l hpart X hp 4 _ _ _ _ (by omega) (by omega) rfl rfl rfl rfl rfl ⟨_, rfl, rfl⟩ rfl ?_
  rintro a o nx h2 ⟨v, ho2, hHS⟩
  simp (disch := omega) only [go_sem, h2, ho2]
  rw [hHS.view, j5, o8, slN, List.length_map, List.length_range, A8, P6]
 ·simp (disch := omega) only [go_sem, hwi, e, G0]
  refine an7 k n l hpart X hp 4 _ _ _ _ (by omega) (by omega) rfl rfl rfl rfl rfl ⟨_, rfl, rfl⟩ rfl ?_
  rintro a o nx h2 ⟨v, ho2, hHS⟩
  simp (disch := omega) only [go_sem, h2, ho2]
  rw [hHS.view, j5, o8, slN, List.length_map, List.length_range, A8, P6]
 ·simp (disch := omega) only [go_sem, hwi, e, G0]
  refine av1 k n l hpart X hp 5 _ _ _ _ (by omega) (by omega) rfl rfl rfl rfl rfl ⟨_, rfl, rfl⟩ rfl ?_
  rintro a o nx h2 ⟨v, ho2, hHS⟩
  simp (disch := omega) only [go_sem, h2, ho2]
  rw [hHS.view, j5, o8, slN, List.length_map, List.length_range, A8, P6]
 ·simp (disch := omega) only [go_sem, hwi, e, G0]
  refine av1 k n l hpart X hp 5 _ _ _ _ (by omega) (by omega) rfl rfl rfl rfl rfl ⟨_, rfl, rfl⟩ rfl ?_
  rintro a o nx h2 ⟨v, ho2, hHS⟩
  simp (disch := omega) only [go_sem, h2, ho2]
  rw [hHS.view, j5, o8, slN, List.length_map, List.length_range, A8, P6]
 ·simp (disch := omega) only [go_sem, hwi, e, G0, hp0]
  simp only [j5, o8, slN, C7, List.length_cons, List.length_nil]
 ·simp (disch := omega) only [go_sem, hwi, e, G0, hp0]
  simp only [j5, o8, slN, C7, List.length_cons, List.length_nil]
 ·simp (disch := omega) only [go_sem, hwi, e, G0, hp0]
  simp only [j5, o8, slN, C7, List.length_cons, List.length_nil]
 ·have h4 := Int.emod_nonneg n (show (4 : Int) ≠ 0 by decide)
  have h4' := Int.emod_lt_of_pos n (show (0 : Int) < 4 by decide)
  have h5 := Int.emod_nonneg (IntKind.i64.wrap (n.tdiv 4)) (show (3 : Int) ≠ 0 by decide)
  have h5' := Int.emod_lt_of_pos (IntKind.i64.wrap (n.tdiv 4)) (show (0 : Int) < 3 by decide)
  simp (disch := omega) only [go_sem, hwi, e, G0, hp0, bv9]
  simp only [j5, o8, slN, C7, List.length_cons, List.length_nil]
theorem aS3 : ∀ r : Rw, Ok Tryd.prog 44 [aE8 r] (j5 (aa8 r))
 | .mk k n l => by
  rw [aa8]
  refine bA7 k n l (fun i hi => bU7 k n l (fun j hj => ?_) i (by omega))
  have : SizeOf.sizeOf (l.getD j default) < 1 + SizeOf.sizeOf k + SizeOf.sizeOf n + SizeOf.sizeOf l := by
   rw [List.getD_eq_getElem?_getD, List.getElem?_eq_getElem hj, Option.getD_some]
   have := List.sizeOf_lt_of_mem (List.getElem_mem hj)
   omega
  exact aS3 (l.getD j default)
termination_by r => SizeOf.sizeOf r
decreasing_by
 simp only [Rw.mk.sizeOf_spec]; exact this
set_option maxRecDepth 20000
def cr5 : Rw → List Rw
 | .mk _ _ l => l
def M0 (f : List Rw → Int) (n : Int) (r : Rw) : Int := if n ≤ 14 then n + 1 + f (cr5 r) else n
def szD : Nat → List Rw → Int
 | 0, _ => 1000
 | d + 1, l => l.foldl (M0 (szD d)) 0
theorem aS4 {f : List Rw → Int} {n : Int} (h : ¬ n ≤ 14) : ∀ l : List Rw, l.foldl (M0 f) n = n
 | [] => rfl
 | r :: l => by rw [List.foldl_cons, M0, if_neg h]; exact aS4 h l
theorem bU9 : ∀ (d : Nat) (l : List Rw), 0 ≤ szD d l ∧ szD d l ≤ 1000 + 15 * d
 | 0, l => by rw [szD]; omega
 | d + 1, l => by
  rw [szD]
  have : ∀ (l : List Rw) (n : Int), 0 ≤ n → n ≤ 1000 + 15 * (d + 1) → 0 ≤ l.foldl (M0 (szD d)) n ∧ l.foldl (M0 (szD d)) n ≤ 1000 + 15 * (d + 1) := by
   intro l
   induction l with
   | nil => exact fun n h1 h2 => ⟨h1, h2⟩
   | cons r l ih =>
    intro n h1 h2
    rw [List.foldl_cons]
    have := bU9 d (cr5 r)
    refine ih _ ?_ ?_ <;> unfold M0 <;> split <;> omega
  have := this l 0 (by omega) (by omega)
  omega
def bj9 (d : Nat) (args : List AV) (r : AV) : Prop := ∃ l, args = [slR l, .int .i64 (7 - d)] ∧ r = .int .i64 (szD d l)
theorem aS5 (d) : N1 (bj9 d) := by
 rintro args r r' ⟨l, rfl, rfl⟩ ⟨l', h, rfl⟩
 simp only [List.cons.injEq, AV.sl.injEq, and_true] at h
 rw [aa6 h.2]
theorem aS6 (X) : d6 (EX md0 X) (fun _ => none) 2 Tryd.f43 = true := by kernel_rfl
theorem bk0 : ∀ (d : Nat) (l : List Rw), d ≤ 7 → Ok Tryd.prog 43 [slR l, .int .i64 (7 - d)] (.int .i64 (szD d l))
 | 0, l, _ => by
  refine j7 (E := EX md0 (fun _ _ => none)) (cr := noR) (A5 _) (m5 _) mixed (k := 20) Tryd.func43 (aS6 _) rfl ?_
  simp only [Tryd.f43, Option.getD_some, szD]
  simp (disch := omega) only [go_sem]
 | d + 1, l, hd => by
  refine j7 (E := EX md0 (n7 [(43, w9 (bj9 d))])) (cr := noR) (f9 (m7 _) (k0 (fun args r h => by obtain ⟨l, rfl, rfl⟩ := h; exact bk0 d l (by omega)))) (m5 _) mixed (k := 20) Tryd.func43 (aS6 _) rfl ?_
  have hX : ∀ l : List Rw, n7 [(43, w9 (bj9 d))] 43 [.sl l.length (aE7 l), .int .i64 (7 - d)] = some (.int .i64 (szD d l)) := fun l => l5 (aS5 d) ⟨l, rfl, rfl⟩
  simp only [Tryd.f43, Option.getD_some]
  have h7 : ¬ ((7 : Int) - (d + 1 : Nat) > 6) := by omega
  simp (disch := omega) only [go_sem, h7]
  have hend : ∀ i, l.foldl (M0 (szD d)) 0 = (l.drop i).foldl (M0 (szD d)) ((l.take i).foldl (M0 (szD d)) 0) := fun i => by rw [← List.foldl_append, List.take_append_drop]
  refine m9 (fun m a o nx => ∃ (i : Nat) (s : Int), i ≤ l.length ∧ m = (15 - s).toNat ∧ a 0 = slR l ∧ a 1 = .int .i64 (7 - (d + 1 : Nat)) ∧ a 5 = .int .i64 s ∧ a 6 = .int .i64 i ∧ s = (l.take i).foldl (M0 (szD d)) 0 ∧ (i : Int) ≤ s ∧ s ≤ 2000) 15 (by omega) ⟨0, 0, by omega, rfl, by simp (disch := omega) only [go_sem], by simp (disch := omega) only [go_sem], by simp (disch := omega) only [go_sem], by simp (disch := omega) only [go_sem], rfl, by omega, by omega⟩ ?_
  rintro m a o nx ⟨i, s, hi, rfl, h0, h1, h5, h6, hs, hs0, hs1⟩
  have hi6 : (7 : Int) - (d + 1 : Nat) + 1 = 7 - d := by omega
  by_cases hlt : i < l.length
  ·have hat := bj5 hlt
   have htk : (l.take (i + 1)).foldl (M0 (szD d)) 0 = M0 (szD d) s (l.getD i default) := by rw [List.take_succ_eq_append_getElem hlt, List.foldl_append, ← hs, List.getD_eq_getElem?_getD, List.getElem?_eq_getElem hlt]; rfl
   obtain ⟨k, n, ch, hch⟩ : ∃ k n ch, l.getD i default = .mk k n ch := by cases l.getD i default with | mk k n ch => exact ⟨_, _, _, rfl⟩
   have hsz := bU9 d ch
   by_cases h14 : s ≤ 14
   ·rw [hch, M0, if_pos h14] at htk
    rw [hch] at hat
    have hx := hX ch
    simp (disch := omega) only [go_sem, h0, h1, h5, h6, hat, hx, hi6]
    exact ⟨_, by omega, i + 1, _, by omega, rfl, rfl, rfl, by rw [htk]; rfl, by omega, by omega⟩
   ·simp (disch := omega) only [go_sem, h0, h1, h5, h6]
    rw [szD, hend i, ← hs, aS4 h14]
  ·simp (disch := omega) only [go_sem, h0, h1, h5, h6]
   rw [szD, hend i, ← hs, List.drop_of_length_le (by omega)]
   rfl
def bN0 (l : List Rw) : Bool := decide (szD 7 l ≤ 14)
theorem bA8 (X) : d6 (EX md0 X) (fun _ => none) 1 Tryd.f22 = true := by kernel_rfl
theorem bV0 (l : List Rw) : Ok Tryd.prog 22 [slR l] (.bool (bN0 l)) := by
 refine j7 (E := EX md0 (n7 [(43, w9 (bj9 7))])) (cr := noR) (f9 (m7 _) (k0 (fun args r h => by obtain ⟨l, rfl, rfl⟩ := h; exact bk0 7 l (by omega)))) (m5 _) mixed (k := 0) Tryd.func22 (bA8 _) rfl ?_
 have hX : n7 [(43, w9 (bj9 7))] 43 [.sl l.length (aE7 l), .int .i64 0] = some (.int .i64 (szD 7 l)) := l5 (aS5 7) ⟨l, rfl, rfl⟩
 simp only [Tryd.f22, Option.getD_some]
 simp (disch := omega) only [go_sem, hX]
 rfl
def an8 (l : List Rw) : Nd := match l with | [] => .mk 1 1 0 0 [] | r :: _ => aa8 r
def bk1 (args : List AV) (r : AV) : Prop := ∃ x, args = [aE8 x] ∧ r = j5 (aa8 x)
theorem bk2 : N1 bk1 := by
 rintro args r r' ⟨i, rfl, rfl⟩ ⟨j, h, rfl⟩
 simp only [List.cons.injEq, AV.agg.injEq, and_true] at h
 rw [aL6 h]
theorem bV1 (X) : d6 (EX md0 X) (fun _ => none) 1 Tryd.f23 = true := by kernel_rfl
theorem cr6 (l : List Rw) : Ok Tryd.prog 23 [slR l] (j5 (an8 l)) := by
 refine j7 (E := EX md0 (n7 [(44, w9 bk1)])) (cr := noR) (f9 (m7 _) (k0 (fun args r h => by obtain ⟨l, rfl, rfl⟩ := h; exact aS3 l))) (m5 _) mixed (k := 0) Tryd.func23 (bV1 _) rfl ?_
 simp only [Tryd.f23, Option.getD_some]
 cases l with
 | nil =>
  simp (disch := omega) only [go_sem]
  simp only [j5, an8, o8, slN, p8, List.length_nil]
 | cons r l =>
  have hX : n7 [(44, w9 bk1)] 44 [.agg (cRw r)] = some (j5 (aa8 r)) := l5 bk2 ⟨r, rfl, rfl⟩
  have hat := L9 r l
  simp (disch := omega) only [go_sem, hX, hat]
  rfl
set_option maxRecDepth 20000
mutual
def ar2 : Nd → Bool
 | .mk _ _ _ _ l => decide (l.length ≤ 4) && T6 l
def T6 : List Nd → Bool
 | [] => true
 | x :: l => ar2 x && T6 l
end
mutual
def dN : Nd → Nat
 | .mk _ _ _ _ l => dNs l + 1
def dNs : List Nd → Nat
 | [] => 0
 | x :: l => max (dN x) (dNs l)
end
mutual
theorem aE9 : ∀ n : Nd, ar2 n = true → ay1 n = true
 | .mk k s lo hi l, h => by
  rw [ar2, Bool.and_eq_true, decide_eq_true_eq] at h
  rw [ay1, Bool.and_eq_true, decide_eq_true_eq]
  exact ⟨by omega, av2 l h.2⟩
theorem av2 : ∀ l : List Nd, T6 l = true → aa9 l = true
 | [], _ => by rw [aa9]
 | x :: l, h => by
  rw [T6, Bool.and_eq_true] at h
  rw [aa9, aE9 x h.1, av2 l h.2]; rfl
end
def okR (h : Nat) (x : Nd) : Prop := D5 x = true ∧ ar2 x = true ∧ dN x ≤ h
theorem okR.mono {h h' x} (hx : okR h x) (hh : h ≤ h') : okR h' x := ⟨hx.1, hx.2.1, Nat.le_trans hx.2.2 hh⟩
theorem aS7 : ∀ (l : List Nd) (h : Nat), (∀ x ∈ l, okR h x) → T5 l = true ∧ T6 l = true ∧ dNs l ≤ h
 | [], h, _ => ⟨by rw [T5], by rw [T6], by rw [dNs]; omega⟩
 | x :: l, h, hl => by
  obtain ⟨h1, h2, h3⟩ := hl x List.mem_cons_self
  obtain ⟨g1, g2, g3⟩ := aS7 l h (fun y hy => hl y (List.mem_cons_of_mem _ hy))
  rw [T5, T6, dNs, h1, h2, g1, g2]
  exact ⟨rfl, rfl, by omega⟩
theorem ab0 {k s lo hi : Int} {l : List Nd} {h : Nat} (hh : ae2 k s lo hi l.length = true) (hn : l.length ≤ 4) (hl : ∀ x ∈ l, okR h x) : okR (h + 1) (.mk k s lo hi l) := by
 obtain ⟨g1, g2, g3⟩ := aS7 l h hl
 refine ⟨by rw [D5, hh, g1]; rfl, by rw [ar2, g2, decide_eq_true hn]; rfl, by rw [dN]; omega⟩
theorem aS8 (x : Int) : 1 ≤ bj7 x ∧ bj7 x ≤ 31 := by
 have h1 := Int.emod_nonneg x (show (5 : Int) ≠ 0 by decide)
 have h2 := Int.emod_lt_of_pos x (show (0 : Int) < 5 by decide)
 unfold bj7
 obtain ⟨m, hm⟩ : ∃ m, m = x % 5 := ⟨_, rfl⟩
 rw [← hm] at h1 h2 ⊢
 have : m = 0 ∨ m = 1 ∨ m = 2 ∨ m = 3 ∨ m = 4 := by omega
 rcases this with rfl | rfl | rfl | rfl | rfl <;> decide
theorem bA9 {s : Int} (h : 1 ≤ s ∧ s ≤ 31) : ae2 1 s 0 0 ([] : List Nd).length = true := by
 simp [ae2, T4, h.1, h.2]
theorem ai9 {s : Int} (h : 1 ≤ s ∧ s ≤ 31) : okR 1 (.mk 1 s 0 0 []) := ab0 (h := 0) (bA9 h) (by simp) (fun x hx => by cases hx)
theorem aF0 (n : Int) (ls : List Nd) (h : Nat) (h1 : 1 ≤ h) (hl : ∀ x ∈ ls, okR h x) (i : Nat) : okR h (A2 n ls i) := by
 unfold A2
 split
 ·rename_i hi
  rw [List.getD_eq_getElem?_getD, List.getElem?_eq_getElem hi]
  exact hl _ (List.getElem_mem hi)
 ·exact (ai9 (aS8 _)).mono h1
theorem bB0 (n : Int) (ls : List Nd) (h : Nat) (h1 : 1 ≤ h) (hl : ∀ x ∈ ls, okR h x) (k : Nat) : ∀ x ∈ (List.range k).map (A2 n ls), okR h x := by
 intro x hx
 obtain ⟨i, _, rfl⟩ := List.mem_map.1 hx
 exact aF0 n ls h h1 hl i
theorem aZ4 (k n : Int) (ls : List Nd) (h : Nat) (h1 : 1 ≤ h) (hl : ∀ x ∈ ls, okR h x) : okR (h + 1) (G0 k n ls) := by
 have hm := ay2 ls.length
 have hp0 := aF0 n ls h h1 hl 0
 have n4 : 0 ≤ n % 4 ∧ n % 4 < 4 := ⟨Int.emod_nonneg _ (by decide), Int.emod_lt_of_pos _ (by decide)⟩
 have n3 : 0 ≤ IntKind.i64.wrap (n.tdiv 4) % 3 ∧ IntKind.i64.wrap (n.tdiv 4) % 3 < 3 := ⟨Int.emod_nonneg _ (by decide), Int.emod_lt_of_pos _ (by decide)⟩
 have n31 : 0 ≤ n % 31 ∧ n % 31 < 31 := ⟨Int.emod_nonneg _ (by decide), Int.emod_lt_of_pos _ (by decide)⟩
 have hlist := bB0 n ls h h1 hl (I1 ls.length)
 have hlen : ((List.range (I1 ls.length)).map (A2 n ls)).length = I1 ls.length := by simp
 have one : ∀ x ∈ [A2 n ls 0], okR h x := fun x hx => by rw [List.mem_singleton.1 hx]; exact hp0
 unfold G0
 repeat' split
 ·exact (ai9 ⟨by omega, by omega⟩).mono (by omega)
 ·exact (ai9 (aS8 _)).mono (by omega)
 ·exact ab0 (by simp [ae2, T4]) (by simp) (fun x hx => by cases hx)
 ·exact ab0 (by simp [ae2, T4]) (by simp) (fun x hx => by cases hx)
 ·refine ab0 ?_ (by omega) hlist
  rw [hlen]; simp [ae2, T4]; omega
 ·refine ab0 ?_ (by omega) hlist
  rw [hlen]; simp [ae2, T4]; omega
 ·exact ab0 (by simp [ae2, T4]) (by simp) one
 ·exact ab0 (by simp [ae2, T4]) (by simp) one
 ·exact ab0 (by simp [ae2, T4]) (by simp) one
 ·refine ab0 ?_ (by simp) one
  simp [ae2, T4]; omega
theorem aS9 {f : List Rw → Int} (hf : ∀ l, 0 ≤ f l) : ∀ (l : List Rw) (n : Int), l.foldl (M0 f) n ≤ 14 → n ≤ 14 ∧ ∀ r ∈ l, f (cr5 r) ≤ 14 ∨ n < 0
 | [], n, h => ⟨h, fun r hr => by cases hr⟩
 | r :: l, n, h => by
  rw [List.foldl_cons] at h
  obtain ⟨h1, h2⟩ := aS9 hf l _ h
  have := hf (cr5 r)
  unfold M0 at h1 h2
  split at h1
  ·rename_i hn
   rw [if_pos hn] at h2
   refine ⟨by omega, fun q hq => ?_⟩
   rcases List.mem_cons.1 hq with rfl | hq
   ·omega
   ·have := h2 q hq; omega
  ·omega
theorem an9 : ∀ {l : List Rw} {x : Nd}, x ∈ s7 l → ∃ r ∈ l, x = aa8 r
 | [], x, h => by rw [s7] at h; cases h
 | r :: l, x, h => by
  rw [s7] at h
  rcases List.mem_cons.1 h with rfl | h
  ·exact ⟨r, List.mem_cons_self, rfl⟩
  ·obtain ⟨q, hq, e⟩ := an9 h
   exact ⟨q, List.mem_cons_of_mem _ hq, e⟩
theorem aT0 : ∀ (d : Nat) (l : List Rw), szD d l ≤ 14 → ∀ r ∈ l, okR (d + 1) (aa8 r)
 | 0, l, h, _, _ => by rw [szD] at h; omega
 | d + 1, l, h, r, hr => by
  rw [szD] at h
  obtain ⟨_, h2⟩ := aS9 (fun l => (bU9 d l).1) l 0 h
  have h3 : szD d (cr5 r) ≤ 14 := by have := h2 r hr; omega
  obtain ⟨k, n, ch⟩ := r
  have ih := aT0 d ch h3
  rw [aa8]
  exact aZ4 k n _ (d + 1) (by omega) (fun x hx => by obtain ⟨q, hq, rfl⟩ := an9 hx; exact ih q hq)
theorem aT1 {l : List Rw} (h : bN0 l = true) : okR 8 (an8 l) := by
 unfold bN0 at h
 rw [decide_eq_true_eq] at h
 unfold an8
 cases l with
 | nil => exact (ai9 ⟨by omega, by omega⟩).mono (by omega)
 | cons r l => exact aT0 7 _ h r List.mem_cons_self
end Go.Proofs.YtpmjpogcaglphaaDoor.A
