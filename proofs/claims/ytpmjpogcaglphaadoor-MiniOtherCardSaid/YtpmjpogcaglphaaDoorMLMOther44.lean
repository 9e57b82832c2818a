/- Two machines told apart: pairs in cells; the document's way. -/
import Derived.Test.YtpmjpogcaglphaaDoorMLMOther43
set_option linter.unusedVariables false
set_option linter.unusedSimpArgs false
set_option linter.unnecessarySimpa false
namespace Go.Proofs.YtpmjpogcaglphaaDoor.A
open Go
set_option maxRecDepth 20000
def cQ (l : List Ent) : List AV := l.flatMap fun e => [.int .i64 (e.x : Nat), .int .i64 (e.y : Nat), .int .i64 e.b, .int .i64 (e.m : Nat)]
@[go_sem] theorem bv0 (l : List Ent) : (cQ l).length = l.length * 4 := by
 induction l with
 | nil => rfl
 | cons p l ih => simp only [cQ, List.flatMap_cons, List.length_append, List.length_cons, List.length_nil] at ih ⊢; omega
theorem cB1 (x y) : cQ (x ++ y) = cQ x ++ cQ y := by simp [cQ]
@[go_sem] theorem dt3 (l : List Ent) : (cQ l).all n5 = true := by
 induction l with
 | nil => rfl
 | cons p l ih => simpa [cQ, n5] using ih
@[go_sem] theorem cW4 (o d l) : (cQ l).map (view o d) = cQ l := by
 induction l with
 | nil => rfl
 | cons p l ih => simpa [cQ, V6] using ih
@[go_sem] theorem cW5 (o d l) : (cQ l).flatMap (a8 o d) = [] := by
 induction l with
 | nil => rfl
 | cons p l ih => simpa [cQ, V7] using ih
@[go_sem] theorem dk0 (l) : (cQ l).take (l.length * 4) = cQ l := d9 (by rw [bv0])
theorem cB2 {l : List Ent} {i : Nat} {e : Ent} (h : l[i]? = some e) : (cQ l).drop (i * 4) = .int .i64 (e.x : Nat) :: .int .i64 (e.y : Nat) :: .int .i64 e.b :: .int .i64 (e.m : Nat) :: cQ (l.drop (i + 1)) := by
 induction l generalizing i with
 | nil => simp at h
 | cons p l ih =>
  cases i with
  | zero =>
   simp at h
   subst h
   rfl
  | succ i =>
   have := ih (i := i) (by simpa using h)
   have e2 : (i + 1) * 4 = i * 4 + 4 := by omega
   rw [e2]
   simpa [cQ] using this
structure BackL (l : List Ent) : Prop where
 head : l[0]? = some bG7
 back : ∀ (k : Nat) e, l[k]? = some e → 0 < k → ∃ (j : Nat) (f : Ent), e.b = (j : Int) ∧ j < k ∧ l[j]? = some f ∧ e.w = f.w ++ [e.m]
theorem QMid.backL {N A M B i l c} (h : QMid N A M B i l c) : BackL l := ⟨h.head, fun k e hk hp => by
 obtain ⟨j, f, h1, h2, _, h4, h5⟩ := h.back k e hk hp
 exact ⟨j, f, h1, h2, h4, h5⟩⟩
theorem BackL.case {l : List Ent} (h : BackL l) {k : Nat} {e : Ent} (he : l[k]? = some e) : (e.b < 0 ∧ e.w = []) ∨ ∃ (j : Nat) (f : Ent), e.b = (j : Int) ∧ j < k ∧ l[j]? = some f ∧ e.w = f.w ++ [e.m] := by
 by_cases hk : 0 < k
 ·exact .inr (h.back k e he hk)
 ·have : k = 0 := by omega
  subst this
  rw [h.head] at he
  injection he with he
  subst he
  exact .inl ⟨by decide, rfl⟩
set_option maxRecDepth 20000
def apV : Option (List Nat) → AV
 | none => .tup [.sl 0 [], .bool false]
 | some w => .tup [slI (nL w), .bool true]
theorem bv1 {N : List Int} {A : List Bool} {M : List Int} {B : List Bool} {r i : Nat} {l : List Ent} {res : Option (List Nat)} (h : bw1 N A M B r i l = some res) : ∃ r', r = r' + 1 ∧ ((l[i]? = none ∧ res = none) ∨ ∃ e, l[i]? = some e ∧ ((A.getD e.x false = B.getD e.y false ∧ bw1 N A M B r' (i + 1) (bd8 N M i e 5 l) = some res) ∨ (¬ A.getD e.x false = B.getD e.y false ∧ res = some e.w))) := by
 cases r with
 | zero => cases h
 | succ r =>
  refine ⟨r, rfl, ?_⟩
  rw [bw1] at h
  cases hx : l[i]? with
  | none =>
   rw [hx] at h
   injection h with h
   exact .inl ⟨rfl, h.symm⟩
  | some e =>
   rw [hx] at h
   have h : (if A.getD e.x false = B.getD e.y false then bw1 N A M B r (i + 1) (bd8 N M i e 5 l) else some (some e.w)) = some res := h
   refine .inr ⟨e, rfl, ?_⟩
   by_cases ha : A.getD e.x false = B.getD e.y false
   ·rw [if_pos ha] at h
    exact .inl ⟨ha, h⟩
   ·rw [if_neg ha] at h
    injection h with h
    exact .inr ⟨ha, h.symm⟩
def aq5 (k : Nat) (l : List Ent) (x : Nat) : List Bool := (List.range k).map fun y => l.any fun p => p.x == x && p.y == y
theorem bd2 {k : Nat} {l : List Ent} {e : Ent} {x : Nat} (hx : x ≠ e.x) : aq5 k (l ++ [e]) x = aq5 k l x := by
 unfold aq5
 refine List.map_congr_left fun y _ => ?_
 have : (e.x == x) = false := by simpa using fun h : e.x = x => hx h.symm
 simp [List.any_append, this]
def cW6 (ρ : Nat → Nat) (k : Nat) (n : Nat) : List AV := (List.range n).map fun x => .ref (ρ x, 31) (ρ x, 31) 0 k
structure SeenAt (o : Ob) (nx n k : Nat) (ρ : Nat → Nat) (l : List Ent) : Prop where
 row : o (2, 19) = some (.row ⟨25, 1, (2, 19), false, true, cW6 ρ k n⟩)
 rows : ∀ x, x < n → ρ x < nx ∧ o (ρ x, 31) = some (.row ⟨4, 1, (ρ x, 31), false, true, cB (aq5 k l x)⟩)
 inj : ∀ x y, x < n → y < n → ρ x = ρ y → x = y
theorem SeenAt.add {o nx n k ρ l} (h : SeenAt o nx n k ρ l) {e : Ent} (hx : e.x < n) {o' : Ob} (hr : o' (2, 19) = o (2, 19)) (h1 : o' (ρ e.x, 31) = some (.row ⟨4, 1, (ρ e.x, 31), false, true, cB (aq5 k (l ++ [e]) e.x)⟩)) (h2 : ∀ i, i < nx → i ≠ ρ e.x → o' (i, 31) = o (i, 31)) {nx' : Nat} (hn : nx ≤ nx') : SeenAt o' nx' n k ρ (l ++ [e]) :=
 ⟨by rw [hr]; exact h.row, fun x hxn => by
  obtain ⟨h3, h4⟩ := h.rows x hxn
  by_cases hxe : x = e.x
  ·subst hxe
   exact ⟨by omega, h1⟩
  ·exact ⟨by omega, by rw [h2 _ h3 (fun hc => hxe (h.inj x e.x hxn hx hc)), bd2 hxe]; exact h4⟩, h.inj⟩
def cj5 (args : List AV) (r : AV) : Prop := ∃ (n k : Nat) (N M : List Int) (A B : List Bool), WfD n N A ∧ WfD k M B ∧ args = [P8 n N A, P8 k M B] ∧ r = apV (bs2 N A M B)
theorem cc9 : N1 cj5 := by
 rintro args r r' ⟨n, k, N, M, A, B, _, _, rfl, rfl⟩ ⟨n', k', N', M', A', B', _, _, h, rfl⟩
 simp only [List.cons.injEq, and_true] at h
 obtain ⟨_, h1, h2⟩ := N6 h.1
 obtain ⟨_, h3, h4⟩ := N6 h.2
 rw [h1, h2, h3, h4]
end Go.Proofs.YtpmjpogcaglphaaDoor.A
