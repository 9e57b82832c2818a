/- l4 part and Make: contracts. UNDER WAY. -/
import Derived.Test.YtpmjpogcaglphaaDoorMLMLaws8
set_option linter.unusedVariables false
set_option linter.unusedSimpArgs false
set_option linter.unnecessarySimpa false
namespace Go.Proofs.YtpmjpogcaglphaaDoor.A
open Go
set_option maxRecDepth 20000
theorem bl7 (x : Int) : IntKind.u64.wrap (x % 5) = x % 5 := IntWalk.u64_in _ (by have := Int.emod_nonneg x (show (5 : Int) ≠ 0 by decide); have := Int.emod_lt_of_pos x (show (0 : Int) < 5 by decide); omega)
def RMk (l : List Rw) (args : List AV) (r : AV) : Prop := ∃ i, i < l.length ∧ args = [aG8 (l.getD i default)] ∧ r = j5 (ab6 (l.getD i default))
theorem cn9 (l) : Q5 (RMk l) := by
 rintro args r r' ⟨i, _, rfl, rfl⟩ ⟨j, _, h, rfl⟩
 simp only [List.cons.injEq, AV.agg.injEq, and_true] at h
 rw [aN3 h]
theorem bB2 (X) : f7 (EX md0 X) (fun _ => none) 2 Tryd.f65 = true := by kernel_rfl
theorem bT0 (k n : Int) (l : List Rw) (hch : ∀ i, i < l.length → Ok Tryd.prog 44 [aG8 (l.getD i default)] (j5 (ab6 (l.getD i default)))) (i : Nat) (hi : i ≤ 1000000) :
  Ok Tryd.prog 65 [aG8 (.mk k n l), .int .i64 i] (j5 (A6 n (u3 l) i)) := by
 refine m5 (E := EX md0 (p4 [(44, E3 (RMk l)), (64, E3 RW)])) (cr := noR) (k0 (k0 (p9 _) (n5 av6)) (n5 (fun args r h => by obtain ⟨i, hi, rfl, rfl⟩ := h; exact hch i hi))) (o8 _) mixed (k := 0) Tryd.func65 (bB2 _) rfl ?_
 have hmk : ∀ j, j < l.length → p4 [(44, E3 (RMk l)), (64, E3 RW)] 44 [aG8 (l.getD j default)] = some (j5 (ab6 (l.getD j default))) := fun j hj => m8 (cn9 l) ⟨j, hj, rfl, rfl⟩
 have hwi : ∀ a m : Int, 0 < m → m ≤ 1000000 → p4 [(44, E3 (RMk l)), (64, E3 RW)] 64 [.int .i64 a, .int .i64 m] = some (.int .i64 (a % m)) := fun a m h1 h2 => bS7 h1 h2
 simp only [Tryd.f65, Option.getD_some]
 by_cases hlt : i < l.length
 ·have hat := bl4 hlt
  have e : A6 n (u3 l) i = ab6 (l.getD i default) := by rw [A6, A9, if_pos hlt, bb5 hlt]
  rw [e]
  have hm := hmk i hlt
  simp (disch := omega) only [go_sem, hat, hm]
 ·have e : A6 n (u3 l) i = .mk 1 (bl6 (IntKind.i64.wrap (n + i))) 0 0 [] := by rw [A6, A9, if_neg hlt]
  rw [e]
  have hs := bl7 (IntKind.i64.wrap (n + i))
  have hs0 := Int.emod_nonneg (IntKind.i64.wrap (n + i)) (show (5 : Int) ≠ 0 by decide)
  simp (disch := omega) only [go_sem, hwi, hs]
  simp only [j5, o7, bl6, slN, p6, List.length_nil]
def bx2 : Nat → Option (List (Nat × Nat))
 | 17 => some [(1, 4), (1, 5)]
 | 25 => some [(1, 4), (1, 5)]
 | _ => none
theorem az6 (n : Nat) : 2 ≤ H7 n ∧ H7 n ≤ 4 := by unfold H7; split <;> (try split) <;> omega
theorem aT7 {n i : Nat} (h : i < H7 n) : i < 2 ∨ (2 ≤ i ∧ i < n ∧ i < 4) := by unfold H7 at h; split at h <;> (try split at h) <;> omega
theorem ao5 (k n : Int) (l : List Rw) (hpart : ∀ i : Nat, i ≤ 1000000 → Ok Tryd.prog 65 [aG8 (.mk k n l), .int .i64 i] (j5 (A6 n (u3 l) i))) (X : FuncId → List AV → Option AV)
  (hX : ∀ i : Nat, i ≤ 1000000 → X 65 [aG8 (.mk k n l), .int .i64 i] = some (j5 (A6 n (u3 l) i))) (kind : Int) {Q : l8} (a : n8) (o : Ob) (nx st : Nat) (hst : st < nx) (hst2 : 2 ≤ st)
  (h1 : a 1 = .ptr (0, 1) (0, 1) 0) (h2 : a 2 = .ptr (0, 2) (0, 2) 0) (h3 : a 3 = .ptr (st, 3) (st, 3) 0) (h4 : a 4 = .int .i64 0)
  (ho1 : o (0, 1) = some (.row ⟨75, 1, (0, 1), false, true, cRw (.mk k n l)⟩)) (ho2 : ∃ x, o (0, 2) = some (.row ⟨37, 1, (0, 2), false, true, x⟩) ∧ x.length = 5) (ho3 : o (st, 3) = some (.row ⟨37, 1, (st, 3), false, true, [.int .i64 kind, .int .i64 0, .int .i64 0, .int .i64 0, .nil]⟩))
  (hQ : ∀ a o nx, a 2 = .ptr (0, 2) (0, 2) 0 → (∃ v, o (0, 2) = some (.row ⟨37, 1, (0, 2), false, true, [.int .i64 kind, .int .i64 0, .int .i64 0, .int .i64 0, v]⟩) ∧ HS 37 5 63 o nx v (H7 l.length) (K9 ((List.range (H7 l.length)).map (A6 n (u3 l))))) → Q .ret a o nx) :
  WP (EX md0 X) noR 10 bx2 (v7 [1, 0, 1, 0, 1, 1, 1, 1, 1, 1, 1, 0, 1, 0, 1, 0] (Tryd.f44.body.getD .skip)) a o nx (K5 1 (ay5 (EX md0 X) noR 10 bx2 (v7 [1, 0, 1, 0, 1, 1, 1, 1, 1, 1, 1, 0, 1, 1] (Tryd.f44.body.getD .skip)) Q)) := by
 simp only [Tryd.f44, Option.getD_some, v7]
 have hc := az6 l.length
 refine u2 (fun m a o nx => ∃ i v, i ≤ H7 l.length ∧ m = H7 l.length - i ∧ st < nx ∧ a 1 = .ptr (0, 1) (0, 1) 0 ∧ a 2 = .ptr (0, 2) (0, 2) 0 ∧ a 3 = .ptr (st, 3) (st, 3) 0 ∧ a 4 = .int .i64 i ∧ HS 37 5 63 o nx v i (K9 ((List.range i).map (A6 n (u3 l)))) ∧
  o (0, 1) = some (.row ⟨75, 1, (0, 1), false, true, cRw (.mk k n l)⟩) ∧ (∃ x, o (0, 2) = some (.row ⟨37, 1, (0, 2), false, true, x⟩) ∧ x.length = 5) ∧ o (st, 3) = some (.row ⟨37, 1, (st, 3), false, true, [.int .i64 kind, .int .i64 0, .int .i64 0, .int .i64 0, v]⟩)) (H7 l.length) ?_ ⟨0, .nil, by omega, by omega, by omega, h1, h2, h3, h4, HS.nil, ho1, ho2, ho3⟩ ?_
 ·omega
 ·clear h1 h2 h3 h4 ho1 ho2 ho3
  rintro m a o nx ⟨i, v, hi, rfl, hnx, h1, h2, h3, h4, hHS, ho1, ⟨x, ho2, hx5⟩, ho3⟩
  have hok := hHS.ok
  by_cases hlt : i < H7 l.length
  ·have hcond : i < 2 ∨ (2 ≤ i ∧ i < l.length ∧ i < 4) := aT7 hlt
   have hp := hX i (by omega)
   simp only [aG8, j5, X6] at hp
   have hsn : (List.range (i + 1)).map (A6 n (u3 l)) = (List.range i).map (A6 n (u3 l)) ++ [A6 n (u3 l) i] := by rw [List.range_succ, List.map_append]; rfl
   rcases hHS with ⟨rfl, e2, e3⟩ | ⟨i1, g1, rfl, hi1, hrow, hlen⟩
   ·rcases hcond with c | ⟨c1, c2, c3⟩
    ·simp (disch := omega) only [go_sem, h1, h2, h3, h4, ho1, ho2, ho3, hp, bx2]
     refine ⟨_, ?_, i + 1, _, by omega, rfl, by omega, rfl, ?_, ⟨x, rfl, hx5⟩, rfl⟩
     ·omega
     ·rw [hsn, W3, C7, List.map_eq_nil_iff.2 (List.length_eq_zero_iff.1 (by rw [List.length_range]; exact e2)), p6]
      exact .inr ⟨nx + 1, _, by rw [e2], by omega, by simp [d6], by rw [List.nil_append, x9, e2]⟩
    ·omega
   ·obtain ⟨cs, hcs⟩ : ∃ cs, cs = K9 ((List.range i).map (A6 n (u3 l))) := ⟨_, rfl⟩
    rw [← hcs] at hrow hlen
    have htk : cs.take (i * 5) = cs := j0 hlen
    have hfin : ∀ o' nx', o' (i1, 63) = some (.row ⟨37, 5, (nx + 1, 63), false, true, cs ++ cNd (A6 n (u3 l) i)⟩) → i1 < nx' → HS 37 5 63 o' nx' (.ref (i1, 63) (nx + 1, 63) 0 (i + 1)) (i + 1) (K9 ((List.range (i + 1)).map (A6 n (u3 l)))) := by
     intro o' nx' h h'
     rw [hsn, W3, C7, ← hcs]
     exact .inr ⟨i1, _, rfl, h', h, by rw [List.length_append, x9, hlen]; omega⟩
    rcases hcond with c | ⟨c1, c2, c3⟩
    all_goals
     simp (disch := omega) only [go_sem, h1, h2, h3, h4, ho1, ho2, ho3, hp, hrow, bx2, hlen, htk]
     refine ⟨_, ?_, i + 1, _, by omega, rfl, by omega, rfl, hfin _ _ ?_ (by omega), ⟨x, rfl, hx5⟩, rfl⟩
     ·omega
     ·simp [d6]
  ·have hie : i = H7 l.length := by omega
   have hc1 : ¬ i < 2 := by omega
   have hx0 : x.drop 5 = [] := List.drop_of_length_le (by omega)
   by_cases c2 : i < l.length
   ·have c3 : ¬ i < 4 := by have := hie; unfold H7 at this; split at this <;> (try split at this) <;> omega
    simp (disch := omega) only [go_sem, h1, h2, h3, h4, ho1, ho2, ho3, hc1, hok]
    exact hQ _ _ _ (by simp [ay8, h2]) ⟨v, by rw [f8, hx0], by rw [← hie]; exact hHS.keep (fun _ _ => by simp [d6]) (by omega)⟩
   ·simp (disch := omega) only [go_sem, h1, h2, h3, h4, ho1, ho2, ho3, hc1, hok]
    exact hQ _ _ _ (by simp [ay8, h2]) ⟨v, by rw [f8, hx0], by rw [← hie]; exact hHS.keep (fun _ _ => by simp [d6]) (by omega)⟩
theorem av8 (k n : Int) (l : List Rw) (hpart : ∀ i : Nat, i ≤ 1000000 → Ok Tryd.prog 65 [aG8 (.mk k n l), .int .i64 i] (j5 (A6 n (u3 l) i))) (X : FuncId → List AV → Option AV)
  (hX : ∀ i : Nat, i ≤ 1000000 → X 65 [aG8 (.mk k n l), .int .i64 i] = some (j5 (A6 n (u3 l) i))) (kind : Int) {Q : l8} (a : n8) (o : Ob) (nx st : Nat) (hst : st < nx) (hst2 : 2 ≤ st)
  (h1 : a 1 = .ptr (0, 1) (0, 1) 0) (h2 : a 2 = .ptr (0, 2) (0, 2) 0) (h3 : a 5 = .ptr (st, 5) (st, 5) 0) (h4 : a 6 = .int .i64 0)
  (ho1 : o (0, 1) = some (.row ⟨75, 1, (0, 1), false, true, cRw (.mk k n l)⟩)) (ho2 : ∃ x, o (0, 2) = some (.row ⟨37, 1, (0, 2), false, true, x⟩) ∧ x.length = 5) (ho3 : o (st, 5) = some (.row ⟨37, 1, (st, 5), false, true, [.int .i64 kind, .int .i64 0, .int .i64 0, .int .i64 0, .nil]⟩))
  (hQ : ∀ a o nx, a 2 = .ptr (0, 2) (0, 2) 0 → (∃ v, o (0, 2) = some (.row ⟨37, 1, (0, 2), false, true, [.int .i64 kind, .int .i64 0, .int .i64 0, .int .i64 0, v]⟩) ∧ HS 37 5 91 o nx v (H7 l.length) (K9 ((List.range (H7 l.length)).map (A6 n (u3 l))))) → Q .ret a o nx) :
  WP (EX md0 X) noR 10 bx2 (v7 [1, 0, 1, 0, 1, 1, 1, 1, 1, 1, 1, 1, 1, 0, 1, 0, 1, 0] (Tryd.f44.body.getD .skip)) a o nx (K5 3 (ay5 (EX md0 X) noR 10 bx2 (v7 [1, 0, 1, 0, 1, 1, 1, 1, 1, 1, 1, 1, 1, 0, 1, 1] (Tryd.f44.body.getD .skip)) Q)) := by
 simp only [Tryd.f44, Option.getD_some, v7]
 have hc := az6 l.length
 refine u2 (fun m a o nx => ∃ i v, i ≤ H7 l.length ∧ m = H7 l.length - i ∧ st < nx ∧ a 1 = .ptr (0, 1) (0, 1) 0 ∧ a 2 = .ptr (0, 2) (0, 2) 0 ∧ a 5 = .ptr (st, 5) (st, 5) 0 ∧ a 6 = .int .i64 i ∧ HS 37 5 91 o nx v i (K9 ((List.range i).map (A6 n (u3 l)))) ∧
  o (0, 1) = some (.row ⟨75, 1, (0, 1), false, true, cRw (.mk k n l)⟩) ∧ (∃ x, o (0, 2) = some (.row ⟨37, 1, (0, 2), false, true, x⟩) ∧ x.length = 5) ∧ o (st, 5) = some (.row ⟨37, 1, (st, 5), false, true, [.int .i64 kind, .int .i64 0, .int .i64 0, .int .i64 0, v]⟩)) (H7 l.length) ?_ ⟨0, .nil, by omega, by omega, by omega, h1, h2, h3, h4, HS.nil, ho1, ho2, ho3⟩ ?_
 ·omega
 ·clear h1 h2 h3 h4 ho1 ho2 ho3
  rintro m a o nx ⟨i, v, hi, rfl, hnx, h1, h2, h3, h4, hHS, ho1, ⟨x, ho2, hx5⟩, ho3⟩
  have hok := hHS.ok
  by_cases hlt : i < H7 l.length
  ·have hcond : i < 2 ∨ (2 ≤ i ∧ i < l.length ∧ i < 4) := aT7 hlt
   have hp := hX i (by omega)
   simp only [aG8, j5, X6] at hp
   have hsn : (List.range (i + 1)).map (A6 n (u3 l)) = (List.range i).map (A6 n (u3 l)) ++ [A6 n (u3 l) i] := by rw [List.range_succ, List.map_append]; rfl
   rcases hHS with ⟨rfl, e2, e3⟩ | ⟨i1, g1, rfl, hi1, hrow, hlen⟩
   ·rcases hcond with c | ⟨c1, c2, c3⟩
    ·simp (disch := omega) only [go_sem, h1, h2, h3, h4, ho1, ho2, ho3, hp, bx2]
     refine ⟨_, ?_, i + 1, _, by omega, rfl, by omega, rfl, ?_, ⟨x, rfl, hx5⟩, rfl⟩
     ·omega
     ·rw [hsn, W3, C7, List.map_eq_nil_iff.2 (List.length_eq_zero_iff.1 (by rw [List.length_range]; exact e2)), p6]
      exact .inr ⟨nx + 1, _, by rw [e2], by omega, by simp [d6], by rw [List.nil_append, x9, e2]⟩
    ·omega
   ·obtain ⟨cs, hcs⟩ : ∃ cs, cs = K9 ((List.range i).map (A6 n (u3 l))) := ⟨_, rfl⟩
    rw [← hcs] at hrow hlen
    have htk : cs.take (i * 5) = cs := j0 hlen
    have hfin : ∀ o' nx', o' (i1, 91) = some (.row ⟨37, 5, (nx + 1, 91), false, true, cs ++ cNd (A6 n (u3 l) i)⟩) → i1 < nx' → HS 37 5 91 o' nx' (.ref (i1, 91) (nx + 1, 91) 0 (i + 1)) (i + 1) (K9 ((List.range (i + 1)).map (A6 n (u3 l)))) := by
     intro o' nx' h h'
     rw [hsn, W3, C7, ← hcs]
     exact .inr ⟨i1, _, rfl, h', h, by rw [List.length_append, x9, hlen]; omega⟩
    rcases hcond with c | ⟨c1, c2, c3⟩
    all_goals
     simp (disch := omega) only [go_sem, h1, h2, h3, h4, ho1, ho2, ho3, hp, hrow, bx2, hlen, htk]
     refine ⟨_, ?_, i + 1, _, by omega, rfl, by omega, rfl, hfin _ _ ?_ (by omega), ⟨x, rfl, hx5⟩, rfl⟩
     ·omega
     ·simp [d6]
  ·have hie : i = H7 l.length := by omega
   have hc1 : ¬ i < 2 := by omega
   have hx0 : x.drop 5 = [] := List.drop_of_length_le (by omega)
   by_cases c2 : i < l.length
   ·have c3 : ¬ i < 4 := by have := hie; unfold H7 at this; split at this <;> (try split at this) <;> omega
    simp (disch := omega) only [go_sem, h1, h2, h3, h4, ho1, ho2, ho3, hc1, hok]
    exact hQ _ _ _ (by simp [ay8, h2]) ⟨v, by rw [f8, hx0], by rw [← hie]; exact hHS.keep (fun _ _ => by simp [d6]) (by omega)⟩
   ·simp (disch := omega) only [go_sem, h1, h2, h3, h4, ho1, ho2, ho3, hc1, hok]
    exact hQ _ _ _ (by simp [ay8, h2]) ⟨v, by rw [f8, hx0], by rw [← hie]; exact hHS.keep (fun _ _ => by simp [d6]) (by omega)⟩
set_option maxRecDepth 20000
def bT1 (k n : Int) (l : List Rw) (args : List AV) (r : AV) : Prop := ∃ i : Nat, i ≤ 1000000 ∧ args = [aG8 (.mk k n l), .int .i64 i] ∧ r = j5 (A6 n (u3 l) i)
theorem bB3 (k n l) : Q5 (bT1 k n l) := by
 rintro args r r' ⟨i, _, rfl, rfl⟩ ⟨j, _, h, rfl⟩
 simp only [List.cons.injEq, AV.int.injEq, and_true, true_and] at h
 rw [Int.ofNat_inj.1 h]
theorem bB4 (X) : f7 (EX md0 X) bx2 10 Tryd.f44 = true := by kernel_rfl
theorem bB5 (k n : Int) (l : List Rw) (hpart : ∀ i : Nat, i ≤ 1000000 → Ok Tryd.prog 65 [aG8 (.mk k n l), .int .i64 i] (j5 (A6 n (u3 l) i))) :
  Ok Tryd.prog 44 [aG8 (.mk k n l)] (j5 (G3 k n (u3 l))) := by
 refine m5 (E := EX md0 (p4 [(65, E3 (bT1 k n l)), (64, E3 RW)])) (cr := noR) (k0 (k0 (p9 _) (n5 av6)) (n5 (fun args r h => by obtain ⟨i, hi, rfl, rfl⟩ := h; exact hpart i hi))) (o8 _) mixed (k := 10) Tryd.func44 (bB4 _) rfl ?_
 obtain ⟨X, hX⟩ : ∃ X, X = p4 [(65, E3 (bT1 k n l)), (64, E3 RW)] := ⟨_, rfl⟩
 have hp : ∀ j : Nat, j ≤ 1000000 → X 65 [aG8 (.mk k n l), .int .i64 j] = some (j5 (A6 n (u3 l) j)) := fun j hj => by rw [hX]; exact m8 (bB3 k n l) ⟨j, hj, rfl, rfl⟩
 have hwi : ∀ a m : Int, 0 < m → m ≤ 1000000 → X 64 [.int .i64 a, .int .i64 m] = some (.int .i64 (a % m)) := fun a m h1 h2 => by rw [hX]; exact bS7 h1 h2
 rw [← hX]
 clear hX
 simp only [Tryd.f44, Option.getD_some]
 have hk0 := Int.emod_nonneg k (show (14 : Int) ≠ 0 by decide)
 have hk1 := Int.emod_lt_of_pos k (show (0 : Int) < 14 by decide)
 have h31 := Int.emod_nonneg n (show (31 : Int) ≠ 0 by decide)
 have h31' := Int.emod_lt_of_pos n (show (0 : Int) < 31 by decide)
 have hp0 : X 65 [.agg [.int .i64 k, .int .i64 n, .sl l.length (aG7 l)], .int .i64 0] = some (.agg (cNd (A6 n (u3 l) 0))) := by
  have := hp 0 (by omega)
  rw [aG8, j5, X6] at this
  exact this
 have hk : k % 14 = 0 ∨ k % 14 = 1 ∨ k % 14 = 2 ∨ k % 14 = 3 ∨ k % 14 = 4 ∨ k % 14 = 5 ∨ k % 14 = 6 ∨ k % 14 = 7 ∨ k % 14 = 8 ∨ k % 14 = 9 ∨ k % 14 = 10 ∨ k % 14 = 11 ∨ k % 14 = 12 ∨ k % 14 = 13 := by omega
 rcases hk with e | e | e | e | e | e | e | e | e | e | e | e | e | e
 ·simp (disch := omega) only [go_sem, hwi, e, G3]
  simp only [j5, o7, bl6, slN, p6, List.length_nil]
 ·simp (disch := omega) only [go_sem, hwi, e, G3]
  simp only [j5, o7, bl6, slN, p6, List.length_nil]
 ·simp (disch := omega) only [go_sem, hwi, e, G3]
  simp only [j5, o7, bl6, slN, p6, List.length_nil]
 ·simp (disch := omega) only [go_sem, hwi, e, G3]
  simp only [j5, o7, bl6, slN, p6, List.length_nil]
 ·have h3 : n % 3 = 0 ∨ n % 3 = 1 ∨ n % 3 = 2 := by omega
  rcases h3 with e3 | e3 | e3
  all_goals
   simp (disch := omega) only [go_sem, hwi, e, e3, G3]
   simp only [j5, o7, slN, p6, List.length_nil]
 ·simp (disch := omega) only [go_sem, hwi, e, G3]
  refine ao5 k n l hpart X hp 4 _ _ _ _ (by omega) (by omega) rfl rfl rfl rfl rfl ⟨_, rfl, rfl⟩ rfl ?_
  rintro a o nx h2 ⟨v, ho2, hHS⟩
  simp (disch := omega) only [go_sem, h2, ho2]
  rw [hHS.view, j5, o7, slN, List.length_map, List.length_range, A9, P2]
 ·simp (disch := omega) only [go_sem, hwi, e, G3]
  refine ao5 k n l hpart X hp 4 _ _ _ _ (by omega) (by omega) rfl rfl rfl rfl rfl ⟨_, rfl, rfl⟩ rfl ?_
  rintro a o nx h2 ⟨v, ho2, hHS⟩
  simp (disch := omega) only [go_sem, h2, ho2]
  rw [hHS.view, j5, o7, slN, List.length_map, List.length_range, A9, P2]
 ·simp (disch := omega) only [go_sem, hwi, e, G3]
  refine ao5 k n l hpart X hp 4 _ _ _ _ (by omega) (by omega) rfl rfl rfl rfl rfl ⟨_, rfl, rfl⟩ rfl ?_
  rintro a o nx h2 ⟨v, ho2, hHS⟩
  simp (disch := omega) only [go_sem, h2, ho2]
  rw [hHS.view, j5, o7, slN, List.length_map, List.length_range, A9, P2]
 ·simp (disch := omega) only [go_sem, hwi, e, G3]
  refine av8 k n l hpart X hp 5 _ _ _ _ (by omega) (by omega) rfl rfl rfl rfl rfl ⟨_, rfl, rfl⟩ rfl ?_
  rintro a o nx h2 ⟨v, ho2, hHS⟩
  simp (disch := omega) only [go_sem, h2, ho2]
  rw [hHS.view, j5, o7, slN, List.length_map, List.length_range, A9, P2]
 ·simp (disch := omega) only [go_sem, hwi, e, G3]
  refine av8 k n l hpart X hp 5 _ _ _ _ (by omega) (by omega) rfl rfl rfl rfl rfl ⟨_, rfl, rfl⟩ rfl ?_
  rintro a o nx h2 ⟨v, ho2, hHS⟩
  simp (disch := omega) only [go_sem, h2, ho2]
  rw [hHS.view, j5, o7, slN, List.length_map, List.length_range, A9, P2]
 ·simp (disch := omega) only [go_sem, hwi, e, G3, hp0]
  simp only [j5, o7, slN, C7, List.length_cons, List.length_nil]
 ·simp (disch := omega) only [go_sem, hwi, e, G3, hp0]
  simp only [j5, o7, slN, C7, List.length_cons, List.length_nil]
 ·simp (disch := omega) only [go_sem, hwi, e, G3, hp0]
  simp only [j5, o7, slN, C7, List.length_cons, List.length_nil]
 ·have h4 := Int.emod_nonneg n (show (4 : Int) ≠ 0 by decide)
  have h4' := Int.emod_lt_of_pos n (show (0 : Int) < 4 by decide)
  have h5 := Int.emod_nonneg (IntKind.i64.wrap (n.tdiv 4)) (show (3 : Int) ≠ 0 by decide)
  have h5' := Int.emod_lt_of_pos (IntKind.i64.wrap (n.tdiv 4)) (show (0 : Int) < 3 by decide)
  simp (disch := omega) only [go_sem, hwi, e, G3, hp0, bx2]
  simp only [j5, o7, slN, C7, List.length_cons, List.length_nil]
theorem aT8 : ∀ r : Rw, Ok Tryd.prog 44 [aG8 r] (j5 (ab6 r))
 | .mk k n l => by
  rw [ab6]
  refine bB5 k n l (fun i hi => bT0 k n l (fun j hj => ?_) i (by omega))
  have : SizeOf.sizeOf (l.getD j default) < 1 + SizeOf.sizeOf k + SizeOf.sizeOf n + SizeOf.sizeOf l := by
   rw [List.getD_eq_getElem?_getD, List.getElem?_eq_getElem hj, Option.getD_some]
   have := List.sizeOf_lt_of_mem (List.getElem_mem hj)
   omega
  exact aT8 (l.getD j default)
termination_by r => SizeOf.sizeOf r
decreasing_by
 simp only [Rw.mk.sizeOf_spec]; exact this
set_option maxRecDepth 20000
def co0 : Rw → List Rw
 | .mk _ _ l => l
def L3 (f : List Rw → Int) (n : Int) (r : Rw) : Int := if n ≤ 14 then n + 1 + f (co0 r) else n
def szD : Nat → List Rw → Int
 | 0, _ => 1000
 | d + 1, l => l.foldl (L3 (szD d)) 0
theorem aT9 {f : List Rw → Int} {n : Int} (h : ¬ n ≤ 14) : ∀ l : List Rw, l.foldl (L3 f) n = n
 | [] => rfl
 | r :: l => by rw [List.foldl_cons, L3, if_neg h]; exact aT9 h l
theorem bT2 : ∀ (d : Nat) (l : List Rw), 0 ≤ szD d l ∧ szD d l ≤ 1000 + 15 * d
 | 0, l => by rw [szD]; omega
 | d + 1, l => by
  rw [szD]
  have : ∀ (l : List Rw) (n : Int), 0 ≤ n → n ≤ 1000 + 15 * (d + 1) → 0 ≤ l.foldl (L3 (szD d)) n ∧ l.foldl (L3 (szD d)) n ≤ 1000 + 15 * (d + 1) := by
   intro l
   induction l with
   | nil => exact fun n h1 h2 => ⟨h1, h2⟩
   | cons r l ih =>
    intro n h1 h2
    rw [List.foldl_cons]
    have := bT2 d (co0 r)
    refine ih _ ?_ ?_ <;> unfold L3 <;> split <;> omega
  have := this l 0 (by omega) (by omega)
  omega
def bl8 (d : Nat) (args : List AV) (r : AV) : Prop := ∃ l, args = [slR l, .int .i64 (7 - d)] ∧ r = .int .i64 (szD d l)
theorem aU0 (d) : Q5 (bl8 d) := by
 rintro args r r' ⟨l, rfl, rfl⟩ ⟨l', h, rfl⟩
 simp only [List.cons.injEq, AV.sl.injEq, and_true] at h
 rw [ab4 h.2]
theorem aU1 (X) : f7 (EX md0 X) (fun _ => none) 2 Tryd.f43 = true := by kernel_rfl
theorem bl9 : ∀ (d : Nat) (l : List Rw), d ≤ 7 → Ok Tryd.prog 43 [slR l, .int .i64 (7 - d)] (.int .i64 (szD d l))
 | 0, l, _ => by
  refine m5 (E := EX md0 (fun _ _ => none)) (cr := noR) (A8 _) (o8 _) mixed (k := 20) Tryd.func43 (aU1 _) rfl ?_
  simp only [Tryd.f43, Option.getD_some, szD]
  simp (disch := omega) only [go_sem]
 | d + 1, l, hd => by
  refine m5 (E := EX md0 (p4 [(43, E3 (bl8 d))])) (cr := noR) (k0 (p9 _) (n5 (fun args r h => by obtain ⟨l, rfl, rfl⟩ := h; exact bl9 d l (by omega)))) (o8 _) mixed (k := 20) Tryd.func43 (aU1 _) rfl ?_
  have hX : ∀ l : List Rw, p4 [(43, E3 (bl8 d))] 43 [.sl l.length (aG7 l), .int .i64 (7 - d)] = some (.int .i64 (szD d l)) := fun l => m8 (aU0 d) ⟨l, rfl, rfl⟩
  simp only [Tryd.f43, Option.getD_some]
  have h7 : ¬ ((7 : Int) - (d + 1 : Nat) > 6) := by omega
  simp (disch := omega) only [go_sem, h7]
  have hend : ∀ i, l.foldl (L3 (szD d)) 0 = (l.drop i).foldl (L3 (szD d)) ((l.take i).foldl (L3 (szD d)) 0) := fun i => by rw [← List.foldl_append, List.take_append_drop]
  refine u2 (fun m a o nx => ∃ (i : Nat) (s : Int), i ≤ l.length ∧ m = (15 - s).toNat ∧ a 0 = slR l ∧ a 1 = .int .i64 (7 - (d + 1 : Nat)) ∧ a 5 = .int .i64 s ∧ a 6 = .int .i64 i ∧ s = (l.take i).foldl (L3 (szD d)) 0 ∧ (i : Int) ≤ s ∧ s ≤ 2000) 15 (by omega) ⟨0, 0, by omega, rfl, by simp (disch := omega) only [go_sem], by simp (disch := omega) only [go_sem], by simp (disch := omega) only [go_sem], by simp (disch := omega) only [go_sem], rfl, by omega, by omega⟩ ?_
  rintro m a o nx ⟨i, s, hi, rfl, h0, h1, h5, h6, hs, hs0, hs1⟩
  have hi6 : (7 : Int) - (d + 1 : Nat) + 1 = 7 - d := by omega
  by_cases hlt : i < l.length
  ·have hat := bl4 hlt
   have htk : (l.take (i + 1)).foldl (L3 (szD d)) 0 = L3 (szD d) s (l.getD i default) := by rw [List.take_succ_eq_append_getElem hlt, List.foldl_append, ← hs, List.getD_eq_getElem?_getD, List.getElem?_eq_getElem hlt]; rfl
   obtain ⟨k, n, ch, hch⟩ : ∃ k n ch, l.getD i default = .mk k n ch := by cases l.getD i default with | mk k n ch => exact ⟨_, _, _, rfl⟩
   have hsz := bT2 d ch
   by_cases h14 : s ≤ 14
   ·rw [hch, L3, if_pos h14] at htk
    rw [hch] at hat
    have hx := hX ch
    simp (disch := omega) only [go_sem, h0, h1, h5, h6, hat, hx, hi6]
    exact ⟨_, by omega, i + 1, _, by omega, rfl, rfl, rfl, by rw [htk]; rfl, by omega, by omega⟩
   ·simp (disch := omega) only [go_sem, h0, h1, h5, h6]
    rw [szD, hend i, ← hs, aT9 h14]
  ·simp (disch := omega) only [go_sem, h0, h1, h5, h6]
   rw [szD, hend i, ← hs, List.drop_of_length_le (by omega)]
   rfl
def bg2 (l : List Rw) : Bool := decide (szD 7 l ≤ 14)
theorem bB6 (X) : f7 (EX md0 X) (fun _ => none) 1 Tryd.f22 = true := by kernel_rfl
theorem bT3 (l : List Rw) : Ok Tryd.prog 22 [slR l] (.bool (bg2 l)) := by
 refine m5 (E := EX md0 (p4 [(43, E3 (bl8 7))])) (cr := noR) (k0 (p9 _) (n5 (fun args r h => by obtain ⟨l, rfl, rfl⟩ := h; exact bl9 7 l (by omega)))) (o8 _) mixed (k := 0) Tryd.func22 (bB6 _) rfl ?_
 have hX : p4 [(43, E3 (bl8 7))] 43 [.sl l.length (aG7 l), .int .i64 0] = some (.int .i64 (szD 7 l)) := m8 (aU0 7) ⟨l, rfl, rfl⟩
 simp only [Tryd.f22, Option.getD_some]
 simp (disch := omega) only [go_sem, hX]
 rfl
def W4 (l : List Rw) : Nd := match l with | [] => .mk 1 1 0 0 [] | r :: _ => ab6 r
def bm0 (args : List AV) (r : AV) : Prop := ∃ x, args = [aG8 x] ∧ r = j5 (ab6 x)
theorem bm1 : Q5 bm0 := by
 rintro args r r' ⟨i, rfl, rfl⟩ ⟨j, h, rfl⟩
 simp only [List.cons.injEq, AV.agg.injEq, and_true] at h
 rw [aN3 h]
theorem bT4 (X) : f7 (EX md0 X) (fun _ => none) 1 Tryd.f23 = true := by kernel_rfl
theorem co1 (l : List Rw) : Ok Tryd.prog 23 [slR l] (j5 (W4 l)) := by
 refine m5 (E := EX md0 (p4 [(44, E3 bm0)])) (cr := noR) (k0 (p9 _) (n5 (fun args r h => by obtain ⟨l, rfl, rfl⟩ := h; exact aT8 l))) (o8 _) mixed (k := 0) Tryd.func23 (bT4 _) rfl ?_
 simp only [Tryd.f23, Option.getD_some]
 cases l with
 | nil =>
  simp (disch := omega) only [go_sem]
  simp only [j5, W4, o7, slN, p6, List.length_nil]
 | cons r l =>
  have hX : p4 [(44, E3 bm0)] 44 [.agg (cRw r)] = some (j5 (ab6 r)) := m8 bm1 ⟨r, rfl, rfl⟩
  have hat := L0 r l
  simp (disch := omega) only [go_sem, hX, hat]
  rfl
set_option maxRecDepth 20000
structure BS where
 n : Nat
 s : List (Int × Int × Int)
 f : List (Int × Int)
abbrev BF := BS → (Int × Int) × BS
def BS.state (b : BS) : BS := { b with n := b.n + 1 }
def BS.free (b : BS) (x y : Int) : BS := { b with f := b.f ++ [(x, y)] }
def BS.frees (b : BS) (l : List (Int × Int)) : BS := { b with f := b.f ++ l }
def BS.step (b : BS) (x y v : Int) : BS := { b with s := b.s ++ [(x, y, v)] }
def d8 : List BF → BS → List (Int × Int) → List (Int × Int) × BS
 | [], b, out => (out, b)
 | f :: fs, b, out => if b.n > 1000 then ([], b) else d8 fs (f b).2 (out ++ [(f b).1])
def T7 (f : BF) (around back : Bool) (b : BS) : (Int × Int) × BS :=
 let r := f b.state
 ((b.n, r.2.n), r.2.state.frees ([((b.n : Int), r.1.1)] ++ (if around then [((b.n : Int), (r.2.n : Int))] else []) ++ (if back then [(r.1.2, r.1.1)] else []) ++ [(r.1.2, (r.2.n : Int))]))
def M8 : List (Int × Int) → List (Int × Int)
 | p :: q :: l => (p.2, q.1) :: M8 (q :: l)
 | _ => []
def ab8 (fs : List BF) (b : BS) : (Int × Int) × BS :=
 let r := d8 fs b []
 if r.2.n > 1000 ∨ r.1 = [] then ((0, 0), r.2) else (((r.1.headD (0, 0)).1, (r.1.getLastD (0, 0)).2), r.2.frees (M8 r.1))
def T8 (fs : List BF) (b : BS) : (Int × Int) × BS :=
 let r := d8 fs b.state []
 ((b.n, r.2.n), r.2.state.frees (r.1.flatMap fun p => [((b.n : Int), p.1), (p.2, (r.2.n : Int))]))
def r9 (lo : Int) (e : Int) : Nat → List (Int × Int) → List (Int × Int)
 | _, [] => []
 | _, [p] => [(p.2, e)]
 | i, p :: q :: l => (if (i : Int) + 1 ≥ lo then [(p.2, e)] else []) ++ (p.2, q.1) :: r9 lo e (i + 1) (q :: l)
def Y6 (n : Int) : List (Int × Int) → List (Int × Int)
 | [] => []
 | p :: _ => [(n, p.1)]
def z6 (lo : Int) (hi : Nat) (f : BF) (b : BS) : (Int × Int) × BS :=
 let r := d8 (List.replicate hi f) b.state []
 if r.2.state.n > 1000 then ((b.n, r.2.n), r.2.state)
 else ((b.n, r.2.n), r.2.state.frees (Y6 b.n r.1 ++ r9 lo r.2.n 0 r.1 ++ (if lo = 0 then [((b.n : Int), (r.2.n : Int))] else [])))
def az7 (kind set : Int) (b : BS) : (Int × Int) × BS :=
 ((b.n, b.n + 1), if kind = 1 then b.state.state.step b.n (b.n + 1) set else if kind = 3 then b.state.state.free b.n (b.n + 1) else b.state.state)
def az8 (kind set lo hi : Int) (fs : List BF) : BF :=
 if kind = 4 then ab8 fs
 else if kind = 5 then T8 fs
 else if kind = 6 then T7 (fs.headD (fun b => ((0, 0), b))) true true
 else if kind = 7 then T7 (fs.headD (fun b => ((0, 0), b))) false true
 else if kind = 8 then T7 (fs.headD (fun b => ((0, 0), b))) true false
 else if kind = 9 then z6 lo hi.toNat (fs.headD (fun b => ((0, 0), b)))
 else az7 kind set
mutual
def d7 : Nd → BF
 | .mk kind set lo hi l => az8 kind set lo hi (l6 l)
def l6 : List Nd → List BF
 | [] => []
 | x :: l => d7 x :: l6 l
end
structure BRow (o : Ob) (nx : Nat) (t : Nat) (b : BS) (vS vF : AV) : Prop where
 lt : t < nx
 row : o (t, 8) = some (.row ⟨134, 1, (t, 8), false, true, [.int .i64 b.n, .int .i64 0, .int .i64 0, vS, vF]⟩)
 s : HS 145 3 139 o nx vS b.s.length (cS b.s)
 f : HS 100 2 16 o nx vF b.f.length (cP b.f)
def BAt (o : Ob) (nx : Nat) (t : Nat) (b : BS) : Prop := ∃ vS vF, BRow o nx t b vS vF
def BKeep (t : Nat) (o : Ob) (nx : Nat) (o' : Ob) : Prop := ∀ i j, i < nx → (j = 8 → i ≠ t) → j ≠ 139 → j ≠ 16 → o' (i, j) = o (i, j)
theorem BKeep.refl (t o nx) : BKeep t o nx o := fun _ _ _ _ _ _ => rfl
theorem BKeep.trans {t o nx o' nx' o''} (h1 : BKeep t o nx o') (h2 : BKeep t o' nx' o'') (h : nx ≤ nx') : BKeep t o nx o'' := fun i j a b c d => by rw [h2 i j (by omega) b c d, h1 i j a b c d]
def BTo (t : Nat) (b' : BS) (H H' : AH) : Prop := H.nx ≤ H'.nx ∧ BAt H'.o H'.nx t b' ∧ BKeep t H.o H.nx H'.o
abbrev bp (t : Nat) : AV := .ptr (t, 8) (t, 8) 0
theorem bm2 {t : Nat} {o : Ob} {nx : Nat} {x : AObj} : BKeep t o nx (upd o (t, 8) x) := fun i j hi h1 h2 h3 => B9 _ _ _ _ (fun e => by injection e with e1 e2; exact h1 e2 e1)
def R2 (args : List AV) (H : AH) (v : AV) (H' : AH) : Prop := OkR Tryd.prog 92 args H v H' ∧ ∀ t b, args = [bp t] → BAt H.o H.nx t b → v = .int .i64 b.n ∧ BTo t b.state H H'
theorem bb8 (X) : f7 (EX md0 X) (fun _ => none) 1 Tryd.f92 = true := by kernel_rfl
theorem BRow.same {o nx t b vS vF} (h : BRow o nx t b vS vF) {b' vS' vF'} (h' : BRow o nx t b' vS' vF') : b.n = b'.n ∧ vS = vS' ∧ vF = vF' := by
 have := h.row.symm.trans h'.row
 simp only [Option.some.injEq, AObj.row.injEq, Row.mk.injEq, List.cons.injEq, AV.int.injEq, and_true, true_and] at this
 exact ⟨by omega, this.2⟩
theorem HS.same {e sz D o nx v n cs n' cs'} (h : HS e sz D o nx v n cs) (h' : HS e sz D o nx v n' cs') : cs = cs' := by
 rcases h with ⟨rfl, rfl, rfl⟩ | ⟨i, g, rfl, _, h3, _⟩
 ·rcases h' with ⟨_, _, rfl⟩ | ⟨_, _, h, _⟩
  ·rfl
  ·cases h
 ·rcases h' with ⟨h, _⟩ | ⟨_, _, h, _, h3', _⟩
  ·cases h
  ·injection h with h1 h2
   rw [← h1, ← h2, h3] at h3'
   simp only [Option.some.injEq, AObj.row.injEq, Row.mk.injEq, true_and] at h3'
   exact h3'
theorem BAt.same {o nx t b} (h : BAt o nx t b) {b'} (h' : BAt o nx t b') : b = b' := by
 obtain ⟨vS, vF, h⟩ := h
 obtain ⟨vS', vF', h'⟩ := h'
 obtain ⟨e1, rfl, rfl⟩ := h.same h'
 have e2 := aT4 (h.s.same h'.s)
 have e3 := aG3 (h.f.same h'.f)
 cases b; cases b'
 simp only at e1 e2 e3
 rw [e1, e2, e3]
theorem bm3 {t : Nat} {o : Ob} {nx : Nat} {b : BS} (h : BAt o nx t b) (hn : b.n ≤ 10000000) : ∃ v H', R2 [bp t] ⟨o, nx⟩ v H' := by
 have hh := h
 obtain ⟨vS, vF, h⟩ := h
 obtain ⟨v, H', h1, h2⟩ := K8 (E := EX md0 (fun _ _ => none)) (cr := noR) (A8 _) (o8 _) mixed (k := 0) (args := [bp t]) (o := o) (nx := nx) (Post := fun v o' nx' => v = .int .i64 b.n ∧ BTo t b.state ⟨o, nx⟩ ⟨o', nx'⟩) Tryd.func92 (bb8 _) rfl (by
  have h1 := h.lt
  have h2 := h.row
  have h3 := h.s.ok
  have h4 := h.f.ok
  simp only [Tryd.f92, Option.getD_some]
  simp (disch := omega) only [go_sem, h2, h3, h4]
  refine ⟨by rw [Int.add_sub_cancel], by show nx ≤ nx + 1 + 1 + 1; omega, ⟨vS, vF, ⟨by show t < nx + 1 + 1 + 1; omega, ?_, h.s.keep (fun _ _ => by simp [d6]) (by show nx ≤ nx + 1 + 1 + 1; omega), h.f.keep (fun _ _ => by simp [d6]) (by show nx ≤ nx + 1 + 1 + 1; omega)⟩⟩, bm2⟩
  exact f8 _ _ _)
 refine ⟨v, H', h1, fun t' b' e hb => ?_⟩
 simp only [List.cons.injEq, AV.ptr.injEq, Prod.mk.injEq, and_true] at e
 obtain rfl := e.1
 rw [← hh.same hb]
 exact h2
theorem E5 {t : Nat} {o : Ob} {nx : Nat} {b : BS} {K : AV × AH → Prop} (h : BAt o nx t b) (hn : b.n ≤ 10000000) (hK : ∀ o' nx', nx ≤ nx' → BAt o' nx' t b.state → BKeep t o nx o' → K (.int .i64 b.n, ⟨o', nx'⟩)) :
  wO (Option.map (fun p => p8 false p.1 p.2) (B3 R2 [bp t] ⟨o, nx⟩)) K := by
 refine K7 (bm3 h hn) fun v H' hr => ?_
 obtain ⟨rfl, h1, h2, h3⟩ := hr.2 t b rfl h
 exact hK H'.o H'.nx h1 h2 h3
def T9 (args : List AV) (H : AH) (v : AV) (H' : AH) : Prop := OkR Tryd.prog 77 args H v H' ∧ ∀ t b, args = [bp t] → BAt H.o H.nx t b → v = .bool (decide (1000 < (b.n : Int))) ∧ BTo t b H H'
theorem bm4 (X) : f7 (EX md0 X) (fun _ => none) 1 Tryd.f77 = true := by kernel_rfl
theorem bB7 {t : Nat} {o : Ob} {nx : Nat} {b : BS} (h : BAt o nx t b) : ∃ v H', T9 [bp t] ⟨o, nx⟩ v H' := by
 have hh := h
 obtain ⟨vS, vF, h⟩ := h
 obtain ⟨v, H', h1, h2⟩ := K8 (E := EX md0 (fun _ _ => none)) (cr := noR) (A8 _) (o8 _) mixed (k := 0) (args := [bp t]) (o := o) (nx := nx) (Post := fun v o' nx' => v = .bool (decide (1000 < (b.n : Int))) ∧ BTo t b ⟨o, nx⟩ ⟨o', nx'⟩) Tryd.func77 (bm4 _) rfl (by
  have h2 := h.row
  simp only [Tryd.f77, Option.getD_some]
  simp (disch := omega) only [go_sem, h2]
  exact ⟨by show nx ≤ nx + 1 + 1; omega, ⟨vS, vF, ⟨by have := h.lt; show t < nx + 1 + 1; omega, h2, h.s.keep (fun _ _ => rfl) (by show nx ≤ nx + 1 + 1; omega), h.f.keep (fun _ _ => rfl) (by show nx ≤ nx + 1 + 1; omega)⟩⟩, BKeep.refl _ _ _⟩)
 refine ⟨v, H', h1, fun t' b' e hb => ?_⟩
 simp only [List.cons.injEq, AV.ptr.injEq, Prod.mk.injEq, and_true] at e
 obtain rfl := e.1
 rw [← hh.same hb]
 exact h2
theorem U2 {t : Nat} {o : Ob} {nx : Nat} {b : BS} {K : AV × AH → Prop} (h : BAt o nx t b) (hK : ∀ o' nx', nx ≤ nx' → BAt o' nx' t b → BKeep t o nx o' → K (.bool (decide (1000 < (b.n : Int))), ⟨o', nx'⟩)) :
  wO (Option.map (fun p => p8 false p.1 p.2) (B3 T9 [bp t] ⟨o, nx⟩)) K := by
 refine K7 (bB7 h) fun v H' hr => ?_
 obtain ⟨rfl, h1, h2, h3⟩ := hr.2 t b rfl h
 exact hK H'.o H'.nx h1 h2 h3
def U3 (args : List AV) (H : AH) (v : AV) (H' : AH) : Prop := OkR Tryd.prog 91 args H v H' ∧ ∀ t b x y, args = [bp t, .int .i64 x, .int .i64 y] → BAt H.o H.nx t b → v = .tup [] ∧ BTo t (b.free x y) H H'
theorem bm5 (X) : f7 (EX md0 X) (fun _ => none) 3 Tryd.f91 = true := by kernel_rfl
theorem bB8 {t : Nat} {o : Ob} {nx : Nat} {b : BS} (h : BAt o nx t b) (x y : Int) (hn : b.f.length ≤ 100000000) : ∃ v H', U3 [bp t, .int .i64 x, .int .i64 y] ⟨o, nx⟩ v H' := by
 have hh := h
 obtain ⟨vS, vF, h⟩ := h
 obtain ⟨v, H', h1, h2⟩ := K8 (E := EX md0 (fun _ _ => none)) (cr := noR) (A8 _) (o8 _) mixed (k := 0) (args := [bp t, .int .i64 x, .int .i64 y]) (o := o) (nx := nx) (Post := fun v o' nx' => v = .tup [] ∧ BTo t (b.free x y) ⟨o, nx⟩ ⟨o', nx'⟩) Tryd.func91 (bm5 _) rfl (by
  have h0 := h.lt
  have h2 := h.row
  have h3 := h.s.ok
  have h4 := h.f.ok
  have hs := h.s
  simp only [Tryd.f91, Option.getD_some]
  rcases h.f with ⟨rfl, e2, e3⟩ | ⟨i1, g1, rfl, hi1, hrow, hlen⟩
  ·simp (disch := omega) only [go_sem, h2, h3, h4]
   refine ⟨rfl, by show nx ≤ nx + 1; omega, ⟨vS, _, ⟨by show t < nx + 1; omega, f8 _ _ _, hs.keep (fun _ _ => by simp [d6]) (by show nx ≤ nx + 1; omega), .inr ⟨nx, (nx, 16), by simp [BS.free, e2], by show _ < nx + 1; omega, ?_, ?_⟩⟩⟩, ?_⟩
   ·simp [d6, BS.free, cP, List.length_eq_zero_iff.1 e2]
   ·simp [BS.free, K6]
   ·intro i j hi a1 a2 a3
    have : i ≠ nx := by have : i < nx := hi; omega
    simp (disch := omega) [d6, this, a3, a2]
    intro hj
    have := a1 hj
    simp [this, hj]
  ·simp (disch := omega) only [go_sem, h2, h3, h4, hrow]
   refine ⟨rfl, by show nx ≤ nx + 1; omega, ⟨vS, _, ⟨by show t < nx + 1; omega, f8 _ _ _, hs.keep (fun _ _ => by simp [d6]) (by show nx ≤ nx + 1; omega), .inr ⟨i1, (nx, 16), by simp [BS.free], by show _ < nx + 1; omega, ?_, ?_⟩⟩⟩, ?_⟩
   ·simp [d6, BS.free, cP]
   ·simp [BS.free, K6]
   ·intro i j hi a1 a2 a3
    have : i ≠ nx := by have : i < nx := hi; omega
    simp (disch := omega) [d6, this, a3, a2]
    intro hj
    have := a1 hj
    simp [this, hj])
 refine ⟨v, H', h1, fun t' b' x' y' e hb => ?_⟩
 simp only [List.cons.injEq, AV.ptr.injEq, Prod.mk.injEq, AV.int.injEq, and_true, true_and] at e
 obtain ⟨⟨rfl, _⟩, rfl, rfl⟩ := e
 rw [← hh.same hb]
 exact h2
theorem C3 {t : Nat} {o : Ob} {nx : Nat} {b : BS} {K : AV × AH → Prop} (h : BAt o nx t b) (x y : Int) (hn : b.f.length ≤ 100000000) (hK : ∀ o' nx', nx ≤ nx' → BAt o' nx' t (b.free x y) → BKeep t o nx o' → K (.tup [], ⟨o', nx'⟩)) :
  wO (Option.map (fun p => p8 false p.1 p.2) (B3 U3 [bp t, .int .i64 x, .int .i64 y] ⟨o, nx⟩)) K := by
 refine K7 (bB8 h x y hn) fun v H' hr => ?_
 obtain ⟨rfl, h1, h2, h3⟩ := hr.2 t b x y rfl h
 exact hK H'.o H'.nx h1 h2 h3
set_option maxRecDepth 20000
mutual
def as3 : Nd → Bool
 | .mk _ _ _ _ l => decide (l.length ≤ 4) && U4 l
def U4 : List Nd → Bool
 | [] => true
 | x :: l => as3 x && U4 l
end
mutual
def dN : Nd → Nat
 | .mk _ _ _ _ l => dNs l + 1
def dNs : List Nd → Nat
 | [] => 0
 | x :: l => max (dN x) (dNs l)
end
mutual
theorem aG9 : ∀ n : Nd, as3 n = true → az5 n = true
 | .mk k s lo hi l, h => by
  rw [as3, Bool.and_eq_true, decide_eq_true_eq] at h
  rw [az5, Bool.and_eq_true, decide_eq_true_eq]
  exact ⟨by omega, av9 l h.2⟩
theorem av9 : ∀ l : List Nd, U4 l = true → ab7 l = true
 | [], _ => by rw [ab7]
 | x :: l, h => by
  rw [U4, Bool.and_eq_true] at h
  rw [ab7, aG9 x h.1, av9 l h.2]; rfl
end
def okR (h : Nat) (x : Nd) : Prop := B0 x = true ∧ as3 x = true ∧ dN x ≤ h
theorem okR.mono {h h' x} (hx : okR h x) (hh : h ≤ h') : okR h' x := ⟨hx.1, hx.2.1, Nat.le_trans hx.2.2 hh⟩
theorem aU2 : ∀ (l : List Nd) (h : Nat), (∀ x ∈ l, okR h x) → T6 l = true ∧ U4 l = true ∧ dNs l ≤ h
 | [], h, _ => ⟨by rw [T6], by rw [U4], by rw [dNs]; omega⟩
 | x :: l, h, hl => by
  obtain ⟨h1, h2, h3⟩ := hl x List.mem_cons_self
  obtain ⟨g1, g2, g3⟩ := aU2 l h (fun y hy => hl y (List.mem_cons_of_mem _ hy))
  rw [T6, U4, dNs, h1, h2, g1, g2]
  exact ⟨rfl, rfl, by omega⟩
theorem P3 {k s lo hi : Int} {l : List Nd} {h : Nat} (hh : Y5 k s lo hi l.length = true) (hn : l.length ≤ 4) (hl : ∀ x ∈ l, okR h x) : okR (h + 1) (.mk k s lo hi l) := by
 obtain ⟨g1, g2, g3⟩ := aU2 l h hl
 refine ⟨by rw [B0, hh, g1]; rfl, by rw [as3, g2, decide_eq_true hn]; rfl, by rw [dN]; omega⟩
theorem aU3 (x : Int) : 1 ≤ bl6 x ∧ bl6 x ≤ 31 := by
 have h1 := Int.emod_nonneg x (show (5 : Int) ≠ 0 by decide)
 have h2 := Int.emod_lt_of_pos x (show (0 : Int) < 5 by decide)
 unfold bl6
 obtain ⟨m, hm⟩ : ∃ m, m = x % 5 := ⟨_, rfl⟩
 rw [← hm] at h1 h2 ⊢
 have : m = 0 ∨ m = 1 ∨ m = 2 ∨ m = 3 ∨ m = 4 := by omega
 rcases this with rfl | rfl | rfl | rfl | rfl <;> decide
theorem bB9 {s : Int} (h : 1 ≤ s ∧ s ≤ 31) : Y5 1 s 0 0 ([] : List Nd).length = true := by
 simp [Y5, T5, h.1, h.2]
theorem aj6 {s : Int} (h : 1 ≤ s ∧ s ≤ 31) : okR 1 (.mk 1 s 0 0 []) := P3 (h := 0) (bB9 h) (by simp) (fun x hx => by cases hx)
theorem aH0 (n : Int) (ls : List Nd) (h : Nat) (h1 : 1 ≤ h) (hl : ∀ x ∈ ls, okR h x) (i : Nat) : okR h (A6 n ls i) := by
 unfold A6
 split
 ·rename_i hi
  rw [List.getD_eq_getElem?_getD, List.getElem?_eq_getElem hi]
  exact hl _ (List.getElem_mem hi)
 ·exact (aj6 (aU3 _)).mono h1
theorem bC0 (n : Int) (ls : List Nd) (h : Nat) (h1 : 1 ≤ h) (hl : ∀ x ∈ ls, okR h x) (k : Nat) : ∀ x ∈ (List.range k).map (A6 n ls), okR h x := by
 intro x hx
 obtain ⟨i, _, rfl⟩ := List.mem_map.1 hx
 exact aH0 n ls h h1 hl i
theorem bb9 (k n : Int) (ls : List Nd) (h : Nat) (h1 : 1 ≤ h) (hl : ∀ x ∈ ls, okR h x) : okR (h + 1) (G3 k n ls) := by
 have hm := az6 ls.length
 have hp0 := aH0 n ls h h1 hl 0
 have n4 : 0 ≤ n % 4 ∧ n % 4 < 4 := ⟨Int.emod_nonneg _ (by decide), Int.emod_lt_of_pos _ (by decide)⟩
 have n3 : 0 ≤ IntKind.i64.wrap (n.tdiv 4) % 3 ∧ IntKind.i64.wrap (n.tdiv 4) % 3 < 3 := ⟨Int.emod_nonneg _ (by decide), Int.emod_lt_of_pos _ (by decide)⟩
 have n31 : 0 ≤ n % 31 ∧ n % 31 < 31 := ⟨Int.emod_nonneg _ (by decide), Int.emod_lt_of_pos _ (by decide)⟩
 have hlist := bC0 n ls h h1 hl (H7 ls.length)
 have hlen : ((List.range (H7 ls.length)).map (A6 n ls)).length = H7 ls.length := by simp
 have one : ∀ x ∈ [A6 n ls 0], okR h x := fun x hx => by rw [List.mem_singleton.1 hx]; exact hp0
 unfold G3
 repeat' split
 ·exact (aj6 ⟨by omega, by omega⟩).mono (by omega)
 ·exact (aj6 (aU3 _)).mono (by omega)
 ·exact P3 (by simp [Y5, T5]) (by simp) (fun x hx => by cases hx)
 ·exact P3 (by simp [Y5, T5]) (by simp) (fun x hx => by cases hx)
 ·refine P3 ?_ (by omega) hlist
  rw [hlen]; simp [Y5, T5]; omega
 ·refine P3 ?_ (by omega) hlist
  rw [hlen]; simp [Y5, T5]; omega
 ·exact P3 (by simp [Y5, T5]) (by simp) one
 ·exact P3 (by simp [Y5, T5]) (by simp) one
 ·exact P3 (by simp [Y5, T5]) (by simp) one
 ·refine P3 ?_ (by simp) one
  simp [Y5, T5]; omega
theorem aU4 {f : List Rw → Int} (hf : ∀ l, 0 ≤ f l) : ∀ (l : List Rw) (n : Int), l.foldl (L3 f) n ≤ 14 → n ≤ 14 ∧ ∀ r ∈ l, f (co0 r) ≤ 14 ∨ n < 0
 | [], n, h => ⟨h, fun r hr => by cases hr⟩
 | r :: l, n, h => by
  rw [List.foldl_cons] at h
  obtain ⟨h1, h2⟩ := aU4 hf l _ h
  have := hf (co0 r)
  unfold L3 at h1 h2
  split at h1
  ·rename_i hn
   rw [if_pos hn] at h2
   refine ⟨by omega, fun q hq => ?_⟩
   rcases List.mem_cons.1 hq with rfl | hq
   ·omega
   ·have := h2 q hq; omega
  ·omega
theorem ao6 : ∀ {l : List Rw} {x : Nd}, x ∈ u3 l → ∃ r ∈ l, x = ab6 r
 | [], x, h => by rw [u3] at h; cases h
 | r :: l, x, h => by
  rw [u3] at h
  rcases List.mem_cons.1 h with rfl | h
  ·exact ⟨r, List.mem_cons_self, rfl⟩
  ·obtain ⟨q, hq, e⟩ := ao6 h
   exact ⟨q, List.mem_cons_of_mem _ hq, e⟩
theorem aU5 : ∀ (d : Nat) (l : List Rw), szD d l ≤ 14 → ∀ r ∈ l, okR (d + 1) (ab6 r)
 | 0, l, h, _, _ => by rw [szD] at h; omega
 | d + 1, l, h, r, hr => by
  rw [szD] at h
  obtain ⟨_, h2⟩ := aU4 (fun l => (bT2 d l).1) l 0 h
  have h3 : szD d (co0 r) ≤ 14 := by have := h2 r hr; omega
  obtain ⟨k, n, ch⟩ := r
  have ih := aU5 d ch h3
  rw [ab6]
  exact bb9 k n _ (d + 1) (by omega) (fun x hx => by obtain ⟨q, hq, rfl⟩ := ao6 hx; exact ih q hq)
theorem aU6 {l : List Rw} (h : bg2 l = true) : okR 8 (W4 l) := by
 unfold bg2 at h
 rw [decide_eq_true_eq] at h
 unfold W4
 cases l with
 | nil => exact (aj6 ⟨by omega, by omega⟩).mono (by omega)
 | cons r l => exact aU5 7 _ h r List.mem_cons_self
end Go.Proofs.YtpmjpogcaglphaaDoor.A
