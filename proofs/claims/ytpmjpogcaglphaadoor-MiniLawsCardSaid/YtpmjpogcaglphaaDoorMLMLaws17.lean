/- Machines of one way out of machines of many: sets of states, met in order. No program stands here. -/
import Derived.Test.YtpmjpogcaglphaaDoorMLMLaws4
set_option linter.unusedVariables false
set_option linter.unusedSimpArgs false
set_option linter.unnecessarySimpa false
namespace Go.Proofs.YtpmjpogcaglphaaDoor.A
open Go
section
variable {T : Type} [DecidableEq T] (f : T → Nat → T)
def aj8 (S : List T) (t : T) : List T := if t ∈ S then S else S ++ [t]
def F5 (x : T) : Nat → List T → List T × List Nat
 | 0, S => (S, [])
 | m + 1, S => (aj8 (F5 x m S).1 (f x m), (F5 x m S).2 ++ [(F5 x m S).1.idxOf (f x m)])
def bs0 (cap : Nat) : Nat → Nat → List T → List Nat → Option (List T × List Nat)
 | 0, _, _, _ => none
 | k + 1, i, S, R => match S[i]? with
  | none => some (S, R)
  | some x => if cap < (F5 f x 5 S).1.length then none else bs0 cap k (i + 1) (F5 f x 5 S).1 (R ++ (F5 f x 5 S).2)
variable {f}
theorem aP2 {α : Type} {l l' : List α} (h : l <+: l') {k : Nat} {y : α} (hk : l[k]? = some y) : l'[k]? = some y := by
 obtain ⟨t, rfl⟩ := h
 rw [List.getElem?_append_left (List.getElem?_eq_some_iff.1 hk).1]
 exact hk
theorem bV5 (S : List T) (t : T) (h : t ∈ S) : aj8 S t = S := if_pos h
theorem aA9 (S : List T) (t : T) (h : t ∉ S) : aj8 S t = S ++ [t] := if_neg h
theorem aB0 (S : List T) (t : T) : S <+: aj8 S t := by
 unfold aj8
 split
 ·exact List.prefix_refl _
 ·exact List.prefix_append _ _
theorem bd7 {S : List T} {t : T} (h : S.Nodup) : (aj8 S t).Nodup := by
 unfold aj8
 split
 ·exact h
 ·rename_i hn
  rw [List.nodup_append]
  exact ⟨h, by simp, fun a ha b hb => by rw [List.mem_singleton.1 hb]; exact fun e => hn (e ▸ ha)⟩
theorem bE9 (S : List T) (t : T) : (aj8 S t).length = max S.length (S.idxOf t + 1) := by
 unfold aj8
 by_cases h : t ∈ S
 ·rw [if_pos h]
  have := List.idxOf_lt_length_of_mem h
  omega
 ·rw [if_neg h, List.length_append, List.idxOf_eq_length h]
  simp
theorem bF0 (S : List T) (t : T) : (aj8 S t)[S.idxOf t]? = some t := by
 unfold aj8
 by_cases h : t ∈ S
 ·rw [if_pos h]
  have := List.idxOf_lt_length_of_mem h
  rw [List.getElem?_eq_getElem this, List.getElem_idxOf this]
 ·rw [if_neg h, List.idxOf_eq_length h]
  simp
theorem bF1 (S : List T) (t : T) : S.idxOf t ≤ S.length := List.idxOf_le_length
theorem ac5 (x : T) (m S) : (F5 f x m S).2.length = m := by
 induction m with
 | zero => rfl
 | succ m ih => simp [F5, ih]
theorem aB1 (x : T) (m S) : S <+: (F5 f x m S).1 := by
 induction m with
 | zero => exact List.prefix_refl _
 | succ m ih => exact ih.trans (aB0 _ _)
theorem aI0 (x : T) (S) {m n : Nat} (h : m ≤ n) : (F5 f x m S).1 <+: (F5 f x n S).1 := by
 induction n with
 | zero => rw [Nat.le_zero.1 h]; exact List.prefix_refl _
 | succ n ih =>
  by_cases e : m = n + 1
  ·rw [e]; exact List.prefix_refl _
  ·exact (ih (by omega)).trans (aB0 _ _)
theorem bd8 (x : T) (m) {S} (h : S.Nodup) : (F5 f x m S).1.Nodup := by
 induction m with
 | zero => exact h
 | succ m ih => exact bd7 ih
theorem aV9 (p : T → Prop) (x : T) (hf : ∀ m, p (f x m)) (m) {S : List T} (h : ∀ y ∈ S, p y) : ∀ y ∈ (F5 f x m S).1, p y := by
 induction m with
 | zero => exact h
 | succ m ih =>
  intro y hy
  simp only [F5, aj8] at hy
  split at hy
  ·exact ih y hy
  ·rcases List.mem_append.1 hy with hy | hy
   ·exact ih y hy
   ·rw [List.mem_singleton.1 hy]; exact hf m
theorem aI1 (x : T) (S) {m n : Nat} (h : m ≤ n) : (F5 f x n S).2.take m = (F5 f x m S).2 := by
 induction n with
 | zero => rw [Nat.le_zero.1 h]; rfl
 | succ n ih =>
  by_cases e : m = n + 1
  ·rw [e]; exact List.take_of_length_le (by rw [ac5]; exact Nat.le_refl _)
  ·have hl : (F5 f x n S).2.length = n := ac5 x n S
   simp only [F5]
   rw [List.take_append_of_le_length (by omega), ih (by omega)]
theorem aW0 (x : T) (S) {m j : Nat} (h : j < m) : ∃ k, (F5 f x m S).2[j]? = some k ∧ k = (F5 f x j S).1.idxOf (f x j) ∧ (F5 f x m S).1[k]? = some (f x j) := by
 have h1 : (F5 f x m S).2[j]? = some ((F5 f x j S).1.idxOf (f x j)) := by
  have := aI1 (f := f) x S (show j + 1 ≤ m by omega)
  have h2 : ((F5 f x m S).2.take (j + 1))[j]? = (F5 f x m S).2[j]? := by rw [List.getElem?_take]; simp
  rw [← h2, this]
  simp [F5, ac5]
 refine ⟨_, h1, rfl, ?_⟩
 have hp := aI0 (f := f) x S (show j + 1 ≤ m by omega)
 have hg := bF0 (F5 f x j S).1 (f x j)
 exact aP2 hp hg
theorem aI2 (x : T) (S : List T) (m : Nat) (hS : 1 ≤ S.length) : (F5 f x m S).1.length = (F5 f x m S).2.foldl max (S.length - 1) + 1 := by
 induction m with
 | zero => simp [F5]; omega
 | succ m ih =>
  simp only [F5, List.foldl_append, List.foldl_cons, List.foldl_nil, bE9]
  omega
end
section
variable {T : Type}
structure MidS (f : T → Nat → T) (t0 : T) (i : Nat) (S : List T) (R : List Nat) : Prop where
 nodup : S.Nodup
 head : S[0]? = some t0
 le : i ≤ S.length
 len : R.length = 5 * i
 leads : ∀ j m, j < i → m < 5 → ∃ x k, S[j]? = some x ∧ R[5 * j + m]? = some k ∧ S[k]? = some (f x m)
 most : S.length = R.foldl max 0 + 1
 met : ∀ q k, R[q]? = some k → k ≤ (R.take q).foldl max 0 + 1
 seen : ∀ j, j < i → j ≤ (R.take (5 * j)).foldl max 0
variable {f : T → Nat → T}
theorem MidS.start (t0 : T) : MidS f t0 0 [t0] [] where
 nodup := by simp
 head := rfl
 le := by simp
 len := rfl
 leads := fun j m h => absurd h (by omega)
 most := rfl
 met := fun q k h => by cases h
 seen := fun j h => absurd h (by omega)
end
section
variable {T : Type} [DecidableEq T]
variable {f : T → Nat → T}
theorem MidS.next {t0 : T} {i : Nat} {S : List T} {R : List Nat} (h : MidS f t0 i S R) {x : T} (hx : S[i]? = some x) : MidS f t0 (i + 1) (F5 f x 5 S).1 (R ++ (F5 f x 5 S).2) := by
 have hpre := aB1 (f := f) x 5 S
 have hlt : i < S.length := by
  by_cases hc : i < S.length
  ·exact hc
  ·rw [List.getElem?_eq_none (by omega)] at hx; cases hx
 have hpl := hpre.length_le
 have hrl : (F5 f x 5 S).2.length = 5 := ac5 x 5 S
 have hm : S.length - 1 = R.foldl max 0 := by have := h.most; omega
 have keep : ∀ {k : Nat} {y : T}, S[k]? = some y → (F5 f x 5 S).1[k]? = some y := fun hk => aP2 hpre hk
 refine ⟨bd8 x 5 h.nodup, keep h.head, by omega, by rw [List.length_append, h.len, hrl]; omega, fun j m hj hm5 => ?_, ?_, fun q k hq => ?_, fun j hj => ?_⟩
 ·by_cases e : j < i
  ·obtain ⟨y, k, h1, h2, h3⟩ := h.leads j m e hm5
   exact ⟨y, k, keep h1, by rw [List.getElem?_append_left (by rw [h.len]; omega)]; exact h2, keep h3⟩
  ·have : j = i := by omega
   subst this
   obtain ⟨k, h1, _, h2⟩ := aW0 (f := f) x S hm5
   exact ⟨x, k, keep hx, by rw [List.getElem?_append_right (by rw [h.len]; omega), h.len]; simpa using h1, h2⟩
 ·have := aI2 (f := f) x S 5 (by omega)
  rw [this, hm, List.foldl_append]
 ·by_cases e : q < R.length
  ·rw [List.getElem?_append_left e] at hq
   rw [List.take_append_of_le_length (by omega)]
   exact h.met q k hq
  ·rw [List.getElem?_append_right (by omega)] at hq
   obtain ⟨j, rfl⟩ : ∃ j, q = R.length + j := ⟨q - R.length, by omega⟩
   rw [Nat.add_sub_cancel_left] at hq
   have hj5 : j < 5 := by
    by_cases hc : j < 5
    ·exact hc
    ·rw [List.getElem?_eq_none (by omega)] at hq; cases hq
   obtain ⟨k', h1, h2, _⟩ := aW0 (f := f) x S hj5
   rw [h1] at hq
   injection hq with hq
   subst hq
   rw [List.take_length_add_append, aI1 x S (by omega : j ≤ 5), List.foldl_append, ← hm]
   have := aI2 (f := f) x S j (by omega)
   have := bF1 (F5 f x j S).1 (f x j)
   omega
 ·by_cases e : j < i
  ·rw [List.take_append_of_le_length (by rw [h.len]; omega)]
   exact h.seen j e
  ·have : j = i := by omega
   subst this
   rw [← h.len, List.take_left' rfl]
   omega
theorem F6 (cap k i : Nat) (S : List T) (R : List Nat) : bs0 f cap (k + 1) i S R = match S[i]? with
  | none => some (S, R)
  | some x => if cap < (F5 f x 5 S).1.length then none else bs0 f cap k (i + 1) (F5 f x 5 S).1 (R ++ (F5 f x 5 S).2) := rfl
theorem aW1 {t0 : T} {cap : Nat} : ∀ {k i : Nat} {S : List T} {R : List Nat} {S' R'}, MidS f t0 i S R → bs0 f cap k i S R = some (S', R') → MidS f t0 S'.length S' R'
 | 0, _, _, _, _, _, _, h => by cases h
 | k + 1, i, S, R, S', R', hm, h => by
  rw [F6] at h
  cases hx : S[i]? with
  | none =>
   rw [hx] at h
   injection h with h
   injection h with h1 h2
   subst h1 h2
   have hle := hm.le
   have hge := List.getElem?_eq_none_iff.1 hx
   have : i = S.length := by omega
   rw [← this]
   exact hm
  | some x =>
   rw [hx] at h
   dsimp only at h
   split at h
   ·cases h
   ·exact aW1 (hm.next hx) h
theorem aW2 {cap : Nat} : ∀ {k i : Nat} {S : List T} {R : List Nat} {S' R'}, S.length ≤ cap → bs0 f cap k i S R = some (S', R') →
  S.length ≤ S'.length ∧ S'.length ≤ cap ∧ ∀ c, (S'.length ≤ c → bs0 f c k i S R = some (S', R')) ∧ (c < S'.length → S.length ≤ c → bs0 f c k i S R = none)
 | 0, _, _, _, _, _, _, h => by cases h
 | k + 1, i, S, R, S', R', hS, h => by
  rw [F6] at h
  cases hx : S[i]? with
  | none =>
   rw [hx] at h
   injection h with h
   injection h with h1 h2
   subst h1 h2
   refine ⟨Nat.le_refl _, hS, fun c => ⟨fun _ => ?_, fun h1 h2 => absurd h1 (by omega)⟩⟩
   rw [F6, hx]
  | some x =>
   rw [hx] at h
   dsimp only at h
   split at h
   ·cases h
   ·rename_i hc
    have hp := (aB1 (f := f) x 5 S).length_le
    obtain ⟨h1, h2, h3⟩ := aW2 (by omega) h
    refine ⟨by omega, h2, fun c => ⟨fun hh => ?_, fun hh hh2 => ?_⟩⟩
    ·rw [F6, hx]
     dsimp only
     rw [if_neg (by omega)]
     exact (h3 c).1 hh
    ·rw [F6, hx]
     dsimp only
     split
     ·rfl
     ·exact (h3 c).2 hh (by omega)
theorem aW3 {cap : Nat} (p : T → Prop) (hf : ∀ x m, p x → p (f x m)) : ∀ {k i : Nat} {S : List T} {R : List Nat} {S' R'}, (∀ y ∈ S, p y) → bs0 f cap k i S R = some (S', R') → ∀ y ∈ S', p y
 | 0, _, _, _, _, _, _, h => by cases h
 | k + 1, i, S, R, S', R', ha, h => by
  rw [F6] at h
  cases hx : S[i]? with
  | none =>
   rw [hx] at h
   injection h with h
   injection h with h1 h2
   subst h1
   exact ha
  | some x =>
   rw [hx] at h
   dsimp only at h
   split at h
   ·cases h
   ·exact aW3 p hf (aV9 (f := f) p x (fun m => hf x m (ha x (List.mem_of_getElem? hx))) 5 ha) h
end
end Go.Proofs.YtpmjpogcaglphaaDoor.A
