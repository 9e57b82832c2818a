/- Machines of one way out of machines of many: sets of states, met in order. No program stands here. -/
import Derived.Test.YtpmjpogcaglphaaDoorProg
import Derived.IntWalk
import Derived.Test.YtpmjpogcaglphaaDoorME91
import Derived.Test.YtpmjpogcaglphaaDoorME92
import Derived.Test.YtpmjpogcaglphaaDoorME93
import Derived.Test.YtpmjpogcaglphaaDoorME94
set_option linter.unusedVariables false
set_option linter.unusedSimpArgs false
set_option linter.unnecessarySimpa false
namespace Go.Proofs.YtpmjpogcaglphaaDoor.A
open Go
section
variable {T : Type} [DecidableEq T] (f : T → Nat → T)
def metS (S : List T) (t : T) : List T := if t ∈ S then S else S ++ [t]
/-- What the first m modes lead to: the sets that are met by then, their numbers. -/
def rowS (x : T) : Nat → List T → List T × List Nat
  | 0, S => (S, [])
  | m + 1, S => (metS (rowS x m S).1 (f x m), (rowS x m S).2 ++ [(rowS x m S).1.idxOf (f x m)])
def bfsS (cap : Nat) : Nat → Nat → List T → List Nat → Option (List T × List Nat)
  | 0, _, _, _ => none
  | k + 1, i, S, R => match S[i]? with
    | none => some (S, R)
    | some x => if cap < (rowS f x 5 S).1.length then none else bfsS cap k (i + 1) (rowS f x 5 S).1 (R ++ (rowS f x 5 S).2)
variable {f}
theorem pre_get {α : Type} {l l' : List α} (h : l <+: l') {k : Nat} {y : α} (hk : l[k]? = some y) : l'[k]? = some y := by
  obtain ⟨t, rfl⟩ := h
  rw [List.getElem?_append_left (List.getElem?_eq_some_iff.1 hk).1]
  exact hk
theorem metS_in (S : List T) (t : T) (h : t ∈ S) : metS S t = S := if_pos h
theorem metS_out (S : List T) (t : T) (h : t ∉ S) : metS S t = S ++ [t] := if_neg h
theorem metS_pre (S : List T) (t : T) : S <+: metS S t := by
  unfold metS
  split
  · exact List.prefix_refl _
  · exact List.prefix_append _ _
theorem metS_nodup {S : List T} {t : T} (h : S.Nodup) : (metS S t).Nodup := by
  unfold metS
  split
  · exact h
  · rename_i hn
    rw [List.nodup_append]
    exact ⟨h, by simp, fun a ha b hb => by rw [List.mem_singleton.1 hb]; exact fun e => hn (e ▸ ha)⟩
theorem metS_mem (S : List T) (t : T) : t ∈ metS S t := by
  unfold metS
  split
  · assumption
  · simp
theorem metS_len (S : List T) (t : T) : (metS S t).length = max S.length (S.idxOf t + 1) := by
  unfold metS
  by_cases h : t ∈ S
  · rw [if_pos h]
    have := List.idxOf_lt_length_of_mem h
    omega
  · rw [if_neg h, List.length_append, List.idxOf_eq_length h]
    simp
theorem metS_get (S : List T) (t : T) : (metS S t)[S.idxOf t]? = some t := by
  unfold metS
  by_cases h : t ∈ S
  · rw [if_pos h]
    have := List.idxOf_lt_length_of_mem h
    rw [List.getElem?_eq_getElem this, List.getElem_idxOf this]
  · rw [if_neg h, List.idxOf_eq_length h]
    simp
theorem idxOf_le (S : List T) (t : T) : S.idxOf t ≤ S.length := List.idxOf_le_length
theorem rowS_len (x : T) (m S) : (rowS f x m S).2.length = m := by
  induction m with
  | zero => rfl
  | succ m ih => simp [rowS, ih]
theorem rowS_pre (x : T) (m S) : S <+: (rowS f x m S).1 := by
  induction m with
  | zero => exact List.prefix_refl _
  | succ m ih => exact ih.trans (metS_pre _ _)
theorem rowS_pre' (x : T) (S) {m n : Nat} (h : m ≤ n) : (rowS f x m S).1 <+: (rowS f x n S).1 := by
  induction n with
  | zero => rw [Nat.le_zero.1 h]; exact List.prefix_refl _
  | succ n ih =>
    by_cases e : m = n + 1
    · rw [e]; exact List.prefix_refl _
    · exact (ih (by omega)).trans (metS_pre _ _)
theorem rowS_nodup (x : T) (m) {S} (h : S.Nodup) : (rowS f x m S).1.Nodup := by
  induction m with
  | zero => exact h
  | succ m ih => exact metS_nodup ih
theorem rowS_all (p : T → Prop) (x : T) (hf : ∀ m, p (f x m)) (m) {S : List T} (h : ∀ y ∈ S, p y) : ∀ y ∈ (rowS f x m S).1, p y := by
  induction m with
  | zero => exact h
  | succ m ih =>
    intro y hy
    simp only [rowS, metS] at hy
    split at hy
    · exact ih y hy
    · rcases List.mem_append.1 hy with hy | hy
      · exact ih y hy
      · rw [List.mem_singleton.1 hy]; exact hf m
theorem rowS_take (x : T) (S) {m n : Nat} (h : m ≤ n) : (rowS f x n S).2.take m = (rowS f x m S).2 := by
  induction n with
  | zero => rw [Nat.le_zero.1 h]; rfl
  | succ n ih =>
    by_cases e : m = n + 1
    · rw [e]; exact List.take_of_length_le (by rw [rowS_len]; exact Nat.le_refl _)
    · have hl : (rowS f x n S).2.length = n := rowS_len x n S
      simp only [rowS]
      rw [List.take_append_of_le_length (by omega), ih (by omega)]
/-- Each number of a row is that of the set that the mode leads to. -/
theorem rowS_get (x : T) (S) {m j : Nat} (h : j < m) : ∃ k, (rowS f x m S).2[j]? = some k ∧ k = (rowS f x j S).1.idxOf (f x j) ∧ (rowS f x m S).1[k]? = some (f x j) := by
  have h1 : (rowS f x m S).2[j]? = some ((rowS f x j S).1.idxOf (f x j)) := by
    have := rowS_take (f := f) x S (show j + 1 ≤ m by omega)
    have h2 : ((rowS f x m S).2.take (j + 1))[j]? = (rowS f x m S).2[j]? := by rw [List.getElem?_take]; simp
    rw [← h2, this]
    simp [rowS, rowS_len]
  refine ⟨_, h1, rfl, ?_⟩
  have hp := rowS_pre' (f := f) x S (show j + 1 ≤ m by omega)
  have hg := metS_get (rowS f x j S).1 (f x j)
  exact pre_get hp hg
/-- What has been met so far is one more than the greatest number. -/
theorem rowS_most (x : T) (S : List T) (m : Nat) (hS : 1 ≤ S.length) : (rowS f x m S).1.length = (rowS f x m S).2.foldl max (S.length - 1) + 1 := by
  induction m with
  | zero => simp [rowS]; omega
  | succ m ih =>
    simp only [rowS, List.foldl_append, List.foldl_cons, List.foldl_nil, metS_len]
    omega
end
theorem most_le (l : List Nat) (a : Nat) : a ≤ l.foldl max a := by
  induction l generalizing a with
  | nil => exact Nat.le_refl _
  | cons x l ih => exact Nat.le_trans (Nat.le_max_left _ _) (ih _)
theorem most_mem {l : List Nat} {a q k : Nat} (h : l[q]? = some k) : k ≤ l.foldl max a := by
  induction l generalizing a q with
  | nil => cases h
  | cons x l ih =>
    cases q with
    | zero =>
      injection h with h
      subst h
      exact Nat.le_trans (Nat.le_max_right _ _) (most_le _ _)
    | succ q => exact ih (q := q) (by simpa using h)
section
variable {T : Type}
/-- Some rounds of the walk over what was met. -/
structure MidS (f : T → Nat → T) (t0 : T) (i : Nat) (S : List T) (R : List Nat) : Prop where
  nodup : S.Nodup
  head : S[0]? = some t0
  le : i ≤ S.length
  len : R.length = 5 * i
  leads : ∀ j m, j < i → m < 5 → ∃ x k, S[j]? = some x ∧ R[5 * j + m]? = some k ∧ S[k]? = some (f x m)
  most : S.length = R.foldl max 0 + 1
  met : ∀ q k, R[q]? = some k → k ≤ (R.take q).foldl max 0 + 1
  seen : ∀ j, j < i → j ≤ (R.take (5 * j)).foldl max 0
variable {f : T → Nat → T}
theorem MidS.start (t0 : T) : MidS f t0 0 [t0] [] where
  nodup := by simp
  head := rfl
  le := by simp
  len := rfl
  leads := fun j m h => absurd h (by omega)
  most := rfl
  met := fun q k h => by cases h
  seen := fun j h => absurd h (by omega)
end
section
variable {T : Type} [DecidableEq T]
variable {f : T → Nat → T}
theorem MidS.next {t0 : T} {i : Nat} {S : List T} {R : List Nat} (h : MidS f t0 i S R) {x : T} (hx : S[i]? = some x) : MidS f t0 (i + 1) (rowS f x 5 S).1 (R ++ (rowS f x 5 S).2) := by
  have hpre := rowS_pre (f := f) x 5 S
  have hlt : i < S.length := by
    by_cases hc : i < S.length
    · exact hc
    · rw [List.getElem?_eq_none (by omega)] at hx; cases hx
  have hpl := hpre.length_le
  have hrl : (rowS f x 5 S).2.length = 5 := rowS_len x 5 S
  have hm : S.length - 1 = R.foldl max 0 := by have := h.most; omega
  have keep : ∀ {k : Nat} {y : T}, S[k]? = some y → (rowS f x 5 S).1[k]? = some y := fun hk => pre_get hpre hk
  refine ⟨rowS_nodup x 5 h.nodup, keep h.head, by omega, by rw [List.length_append, h.len, hrl]; omega, fun j m hj hm5 => ?_, ?_, fun q k hq => ?_, fun j hj => ?_⟩
  · by_cases e : j < i
    · obtain ⟨y, k, h1, h2, h3⟩ := h.leads j m e hm5
      exact ⟨y, k, keep h1, by rw [List.getElem?_append_left (by rw [h.len]; omega)]; exact h2, keep h3⟩
    · have : j = i := by omega
      subst this
      obtain ⟨k, h1, _, h2⟩ := rowS_get (f := f) x S hm5
      exact ⟨x, k, keep hx, by rw [List.getElem?_append_right (by rw [h.len]; omega), h.len]; simpa using h1, h2⟩
  · have := rowS_most (f := f) x S 5 (by omega)
    rw [this, hm, List.foldl_append]
  · by_cases e : q < R.length
    · rw [List.getElem?_append_left e] at hq
      rw [List.take_append_of_le_length (by omega)]
      exact h.met q k hq
    · rw [List.getElem?_append_right (by omega)] at hq
      obtain ⟨j, rfl⟩ : ∃ j, q = R.length + j := ⟨q - R.length, by omega⟩
      rw [Nat.add_sub_cancel_left] at hq
      have hj5 : j < 5 := by
        by_cases hc : j < 5
        · exact hc
        · rw [List.getElem?_eq_none (by omega)] at hq; cases hq
      obtain ⟨k', h1, h2, _⟩ := rowS_get (f := f) x S hj5
      rw [h1] at hq
      injection hq with hq
      subst hq
      rw [List.take_length_add_append, rowS_take x S (by omega : j ≤ 5), List.foldl_append, ← hm]
      have := rowS_most (f := f) x S j (by omega)
      have := idxOf_le (rowS f x j S).1 (f x j)
      omega
  · by_cases e : j < i
    · rw [List.take_append_of_le_length (by rw [h.len]; omega)]
      exact h.seen j e
    · have : j = i := by omega
      subst this
      rw [← h.len, List.take_left' rfl]
      omega
theorem bfsS_succ (cap k i : Nat) (S : List T) (R : List Nat) : bfsS f cap (k + 1) i S R = match S[i]? with
    | none => some (S, R)
    | some x => if cap < (rowS f x 5 S).1.length then none else bfsS f cap k (i + 1) (rowS f x 5 S).1 (R ++ (rowS f x 5 S).2) := rfl
theorem bfsS_mid {t0 : T} {cap : Nat} : ∀ {k i : Nat} {S : List T} {R : List Nat} {S' R'}, MidS f t0 i S R → bfsS f cap k i S R = some (S', R') → MidS f t0 S'.length S' R'
  | 0, _, _, _, _, _, _, h => by cases h
  | k + 1, i, S, R, S', R', hm, h => by
    rw [bfsS_succ] at h
    cases hx : S[i]? with
    | none =>
      rw [hx] at h
      injection h with h
      injection h with h1 h2
      subst h1 h2
      have hle := hm.le
      have hge := List.getElem?_eq_none_iff.1 hx
      have : i = S.length := by omega
      rw [← this]
      exact hm
    | some x =>
      rw [hx] at h
      dsimp only at h
      split at h
      · cases h
      · exact bfsS_mid (hm.next hx) h
theorem bfsS_cap {cap : Nat} : ∀ {k i : Nat} {S : List T} {R : List Nat} {S' R'}, S.length ≤ cap → bfsS f cap k i S R = some (S', R') →
    S.length ≤ S'.length ∧ S'.length ≤ cap ∧ ∀ c, (S'.length ≤ c → bfsS f c k i S R = some (S', R')) ∧ (c < S'.length → S.length ≤ c → bfsS f c k i S R = none)
  | 0, _, _, _, _, _, _, h => by cases h
  | k + 1, i, S, R, S', R', hS, h => by
    rw [bfsS_succ] at h
    cases hx : S[i]? with
    | none =>
      rw [hx] at h
      injection h with h
      injection h with h1 h2
      subst h1 h2
      refine ⟨Nat.le_refl _, hS, fun c => ⟨fun _ => ?_, fun h1 h2 => absurd h1 (by omega)⟩⟩
      rw [bfsS_succ, hx]
    | some x =>
      rw [hx] at h
      dsimp only at h
      split at h
      · cases h
      · rename_i hc
        have hp := (rowS_pre (f := f) x 5 S).length_le
        obtain ⟨h1, h2, h3⟩ := bfsS_cap (by omega) h
        refine ⟨by omega, h2, fun c => ⟨fun hh => ?_, fun hh hh2 => ?_⟩⟩
        · rw [bfsS_succ, hx]
          dsimp only
          rw [if_neg (by omega)]
          exact (h3 c).1 hh
        · rw [bfsS_succ, hx]
          dsimp only
          split
          · rfl
          · exact (h3 c).2 hh (by omega)
/-- Among few sets none is too much. -/
theorem bfsS_some {cap : Nat} (p : T → Prop) (hf : ∀ x m, p x → p (f x m)) (hp : ∀ S : List T, S.Nodup → (∀ y ∈ S, p y) → S.length ≤ cap) : ∀ {k i : Nat} {S : List T} {R : List Nat}, S.Nodup → (∀ y ∈ S, p y) → i ≤ S.length → cap < k + i → ∃ S' R', bfsS f cap k i S R = some (S', R') ∧ ∀ y ∈ S', p y
  | 0, i, S, R, hn, ha, hi, hk => by
    have := hp S hn ha
    omega
  | k + 1, i, S, R, hn, ha, hi, hk => by
    rw [bfsS_succ]
    cases hx : S[i]? with
    | none => exact ⟨S, R, rfl, ha⟩
    | some x =>
      dsimp only
      have hxp := ha x (List.mem_of_getElem? hx)
      have hn' := rowS_nodup (f := f) x 5 hn
      have ha' := rowS_all (f := f) p x (fun m => hf x m hxp) 5 ha
      rw [if_neg (by have := hp _ hn' ha'; omega)]
      have hlt := (List.getElem?_eq_some_iff.1 hx).1
      have hpl := (rowS_pre (f := f) x 5 S).length_le
      exact bfsS_some p hf hp hn' ha' (by omega) (by omega)
theorem bfsS_all {cap : Nat} (p : T → Prop) (hf : ∀ x m, p x → p (f x m)) : ∀ {k i : Nat} {S : List T} {R : List Nat} {S' R'}, (∀ y ∈ S, p y) → bfsS f cap k i S R = some (S', R') → ∀ y ∈ S', p y
  | 0, _, _, _, _, _, _, h => by cases h
  | k + 1, i, S, R, S', R', ha, h => by
    rw [bfsS_succ] at h
    cases hx : S[i]? with
    | none =>
      rw [hx] at h
      injection h with h
      injection h with h1 h2
      subst h1
      exact ha
    | some x =>
      rw [hx] at h
      dsimp only at h
      split at h
      · cases h
      · exact bfsS_all p hf (rowS_all (f := f) p x (fun m => hf x m (ha x (List.mem_of_getElem? hx))) 5 ha) h
end
theorem bools_le : ∀ (n : Nat) (S : List (List Bool)), S.Nodup → (∀ b ∈ S, b.length = n) → S.length ≤ 2 ^ n
  | 0, S, hn, h => by
    match S, hn, h with
    | [], _, _ => simp
    | [_], _, _ => simp
    | a :: b :: l, hn, h =>
      have e1 : a = [] := List.length_eq_zero_iff.1 (h a (by simp))
      have e2 : b = [] := List.length_eq_zero_iff.1 (h b (by simp))
      subst e1 e2
      simp at hn
  | n + 1, S, hn, h => by
    have hc := List.length_eq_countP_add_countP (fun b : List Bool => b.headD false) (l := S)
    have key : ∀ (q : List Bool → Bool) (v : Bool), (∀ b, q b = true → b.headD false = v) → S.countP q ≤ 2 ^ n := fun q v hq => by
      rw [List.countP_eq_length_filter]
      have := bools_le n ((S.filter q).map List.tail) (by
        unfold List.Nodup
        rw [List.pairwise_map]
        refine List.Pairwise.imp_of_mem ?_ (hn.filter q)
        intro a b ha hb hab he
        have ha1 := List.mem_filter.1 ha
        have hb1 := List.mem_filter.1 hb
        have la := h a ha1.1
        have lb := h b hb1.1
        have va := hq a ha1.2
        have vb := hq b hb1.2
        match a, b, la, lb, va, vb, he with
        | x :: a, y :: b, _, _, va, vb, he =>
          simp only [List.headD_cons, List.tail_cons] at va vb he
          exact hab (by rw [va, vb, he])) (fun b hb => by
        obtain ⟨c, hc, rfl⟩ := List.mem_map.1 hb
        rw [List.length_tail, h c (List.mem_filter.1 hc).1]
        rfl)
      simpa using this
    have h1 := key (fun b => b.headD false) true (fun b hb => hb)
    have h2 := key (fun b => decide (¬ b.headD false = true)) false (fun b hb => by simpa using hb)
    rw [Nat.pow_succ]
    omega
end Go.Proofs.YtpmjpogcaglphaaDoor.A
/- The least machine, plainly: classes numbered by the first state of each kind. -/
namespace Go.Proofs.YtpmjpogcaglphaaDoor.A
open Go
set_option maxRecDepth 20000
/-- A state's kind: its class and the classes of the five states behind it. -/
def kindM (N : List Int) (c : List Nat) (s : Nat) : List Nat := c.getD s 0 :: (List.range 5).map fun m => c.getD (N.getD (s * 5 + m) 0).toNat 0
/-- Of the first i states: the first ones of each kind, the new classes. -/
def finM (N : List Int) (c : List Nat) : Nat → List Nat × List Nat
  | 0 => ([], [])
  | i + 1 => match (finM N c i).1.findIdx? (fun f => kindM N c f == kindM N c i) with
    | some k => ((finM N c i).1, (finM N c i).2 ++ [k])
    | none => ((finM N c i).1 ++ [i], (finM N c i).2 ++ [(finM N c i).1.length])
structure FinAt (N : List Int) (c : List Nat) (i : Nat) (F x : List Nat) : Prop where
  len : x.length = i
  most : F.length ≤ i
  in_ : ∀ (k f : Nat), F[k]? = some f → f < i ∧ x[f]? = some k
  rep : ∀ (s k : Nat), x[s]? = some k → ∃ f, F[k]? = some f ∧ kindM N c f = kindM N c s
  one : ∀ (k k' f f' : Nat), F[k]? = some f → F[k']? = some f' → kindM N c f = kindM N c f' → k = k'
theorem snoc_get {α} {l : List α} {a b : α} {k : Nat} (h : (l ++ [a])[k]? = some b) : l[k]? = some b ∨ (k = l.length ∧ b = a) := by
  by_cases hk : k < l.length
  · rw [List.getElem?_append_left hk] at h; exact .inl h
  · rw [List.getElem?_append_right (by omega)] at h
    by_cases hk2 : k = l.length
    · subst hk2; simp at h; exact .inr ⟨rfl, h.symm⟩
    · rw [List.getElem?_eq_none (by simp; omega)] at h; cases h
theorem get_snoc {α} {l : List α} {a b : α} {k : Nat} (h : l[k]? = some b) : (l ++ [a])[k]? = some b := by
  rw [List.getElem?_append_left (List.getElem?_eq_some_iff.1 h).1]; exact h
theorem finM_at (N : List Int) (c : List Nat) : ∀ i, FinAt N c i (finM N c i).1 (finM N c i).2
  | 0 => ⟨rfl, Nat.le_refl _, fun k f h => by simp [finM] at h, fun s k h => by simp [finM] at h, fun k k' f f' h => by simp [finM] at h⟩
  | i + 1 => by
    have ih := finM_at N c i
    rw [finM]
    generalize (finM N c i).1 = F at *
    generalize (finM N c i).2 = x at *
    cases hf : F.findIdx? (fun f => kindM N c f == kindM N c i) with
    | some k =>
      obtain ⟨hk, hk2, _⟩ := List.findIdx?_eq_some_iff_getElem.1 hf
      have hk2 : kindM N c F[k] = kindM N c i := by simpa using hk2
      have hgk : F[k]? = some F[k] := List.getElem?_eq_getElem hk
      refine ⟨by simp [ih.len], by have := ih.most; simp; omega, fun q f h => ?_, fun s q h => ?_, ih.one⟩
      · obtain ⟨h1, h2⟩ := ih.in_ q f h
        exact ⟨by omega, get_snoc h2⟩
      · rcases snoc_get h with h | ⟨h1, h2⟩
        · exact ih.rep s q h
        · rw [ih.len] at h1
          subst h1 h2
          exact ⟨_, hgk, hk2⟩
    | none =>
      have hn : ∀ f ∈ F, kindM N c f ≠ kindM N c i := fun f hf2 e => by
        have := List.findIdx?_eq_none_iff.1 hf f hf2
        rw [e] at this
        simp at this
      have hn2 : ∀ k f, F[k]? = some f → kindM N c f ≠ kindM N c i := fun k f h => hn f (List.mem_of_getElem? h)
      refine ⟨by simp [ih.len], by have := ih.most; simp; omega, fun q f h => ?_, fun s q h => ?_, fun k k' f f' h h' e => ?_⟩
      · rcases snoc_get h with h | ⟨h1, h2⟩
        · obtain ⟨h1, h2⟩ := ih.in_ q f h
          exact ⟨by omega, get_snoc h2⟩
        · subst h1 h2
          exact ⟨by omega, by rw [List.getElem?_append_right (by rw [ih.len]; omega), ih.len]; simp⟩
      · rcases snoc_get h with h | ⟨h1, h2⟩
        · obtain ⟨f, h1, h2⟩ := ih.rep s q h
          exact ⟨f, get_snoc h1, h2⟩
        · rw [ih.len] at h1
          subst h1 h2
          exact ⟨s, by simp, rfl⟩
      · rcases snoc_get h with h | ⟨h1, h2⟩ <;> rcases snoc_get h' with h' | ⟨h1', h2'⟩
        · exact ih.one k k' f f' h h' e
        · rw [h2'] at e; exact absurd e (hn2 k f h)
        · rw [h2] at e; exact absurd e.symm (hn2 k' f' h')
        · omega
/-- Two states are in one class just where their kinds are one. -/
theorem FinAt.iff {N c i F x} (h : FinAt N c i F x) {s t k k' : Nat} (hs : x[s]? = some k) (ht : x[t]? = some k') : k = k' ↔ kindM N c s = kindM N c t := by
  obtain ⟨f, f1, f2⟩ := h.rep s k hs
  obtain ⟨g, g1, g2⟩ := h.rep t k' ht
  constructor
  · rintro rfl
    rw [f1] at g1
    injection g1 with g1
    rw [← f2, ← g2, g1]
  · intro e
    exact h.one k k' f g f1 g1 (by rw [f2, g2, e])
end Go.Proofs.YtpmjpogcaglphaaDoor.A
/- The least machine, plainly: classes parted till none is parted any more. -/
namespace Go.Proofs.YtpmjpogcaglphaaDoor.A
open Go
set_option maxRecDepth 20000
theorem FinAt.lt {N c i F x} (h : FinAt N c i F x) {s k : Nat} (hs : x[s]? = some k) : s < i ∧ k < F.length := by
  obtain ⟨f, f1, _⟩ := h.rep s k hs
  have := (List.getElem?_eq_some_iff.1 hs).1
  exact ⟨by rw [← h.len]; exact this, (List.getElem?_eq_some_iff.1 f1).1⟩
theorem FinAt.get {N c i F x} (h : FinAt N c i F x) {s : Nat} (hs : s < i) : ∃ k, x[s]? = some k := ⟨_, List.getElem?_eq_getElem (by rw [h.len]; exact hs)⟩
theorem kind_head {N : List Int} {c : List Nat} {s t : Nat} (h : kindM N c s = kindM N c t) : c.getD s 0 = c.getD t 0 := by
  unfold kindM at h
  exact (List.cons.inj h).1
theorem kind_next {N : List Int} {c : List Nat} {s t m : Nat} (h : kindM N c s = kindM N c t) (hm : m < 5) : c.getD (N.getD (s * 5 + m) 0).toNat 0 = c.getD (N.getD (t * 5 + m) 0).toNat 0 := by
  unfold kindM at h
  have h := (List.cons.inj h).2
  have h2 := congrArg (fun l : List Nat => l[m]?) h
  simpa [List.getElem?_map, List.getElem?_range hm] using h2
theorem getD_of {l : List Nat} {s k : Nat} (h : l[s]? = some k) : l.getD s 0 = k := by simp [List.getD, h]
/-- Parted once more, there are no fewer classes; where there are as many, they are the same ones. -/
theorem FinAt.grow {N c i F x F' x'} (h : FinAt N c i F x) (h' : FinAt N x i F' x') : F.length ≤ F'.length ∧ (F.length = F'.length → ∀ s t k : Nat, x[s]? = some k → x[t]? = some k → x'[s]? = x'[t]?) := by
  obtain ⟨L, hL⟩ : ∃ L : List Nat, L = (List.range F.length).map (fun k => x'.getD (F.getD k 0) 0) := ⟨_, rfl⟩
  have hLl : L.length = F.length := by rw [hL]; simp
  have hat : ∀ k, k < F.length → ∃ f k', F[k]? = some f ∧ x[f]? = some k ∧ x'[f]? = some k' ∧ x'.getD (F.getD k 0) 0 = k' := fun k hk => by
    have e := List.getElem?_eq_getElem hk
    obtain ⟨h1, h2⟩ := h.in_ k _ e
    obtain ⟨k', h3⟩ := h'.get h1
    refine ⟨_, k', e, h2, h3, ?_⟩
    rw [getD_of e, getD_of h3]
  have hinj : ∀ k l, k < F.length → l < F.length → x'.getD (F.getD k 0) 0 = x'.getD (F.getD l 0) 0 → k = l := fun k l hk hl e => by
    obtain ⟨f, k', a1, a2, a3, a4⟩ := hat k hk
    obtain ⟨g, l', b1, b2, b3, b4⟩ := hat l hl
    have e2 := kind_head ((h'.iff a3 b3).1 (by rw [← a4, ← b4, e]))
    rwa [getD_of a2, getD_of b2] at e2
  have hnd : L.Nodup := by
    rw [hL]
    unfold List.Nodup
    rw [List.pairwise_map]
    refine List.Pairwise.imp_of_mem ?_ List.nodup_range
    intro a b ha hb hab e
    exact hab (hinj a b (List.mem_range.1 ha) (List.mem_range.1 hb) e)
  have hsub : ∀ y ∈ L, y < F'.length := fun y hy => by
    rw [hL] at hy
    obtain ⟨k, hk, rfl⟩ := List.mem_map.1 hy
    obtain ⟨f, k', a1, a2, a3, a4⟩ := hat k (List.mem_range.1 hk)
    rw [a4]
    exact (h'.lt a3).2
  refine ⟨?_, fun he => ?_⟩
  · have := List.Nodup.length_le_of_subset hnd (l₂ := List.range F'.length) (fun y hy => List.mem_range.2 (hsub y hy))
    rw [List.length_range] at this
    omega
  · have key : ∀ s k : Nat, x[s]? = some k → ∃ k', x'[s]? = some k' ∧ k' = x'.getD (F.getD k 0) 0 := fun s k hs => by
      obtain ⟨k', hk'⟩ := h'.get (h.lt hs).1
      have hk2 := (h'.lt hk').2
      by_cases hm : k' ∈ L
      · rw [hL] at hm
        obtain ⟨q, hq, hq2⟩ := List.mem_map.1 hm
        obtain ⟨f, q', a1, a2, a3, a4⟩ := hat q (List.mem_range.1 hq)
        have e2 := kind_head ((h'.iff a3 hk').1 (by rw [← a4]; exact hq2))
        rw [getD_of a2, getD_of hs] at e2
        subst e2
        exact ⟨k', hk', hq2.symm⟩
      · have := List.Nodup.length_le_of_subset (l₁ := k' :: L) (l₂ := List.range F'.length) (List.nodup_cons.2 ⟨hm, hnd⟩) (fun y hy => by
          rcases List.mem_cons.1 hy with rfl | hy
          · exact List.mem_range.2 hk2
          · exact List.mem_range.2 (hsub y hy))
        rw [List.length_range, List.length_cons] at this
        omega
    intro s t k hs ht
    obtain ⟨a, a1, a2⟩ := key s k hs
    obtain ⟨b, b1, b2⟩ := key t k ht
    rw [a1, b1, a2, b2]
end Go.Proofs.YtpmjpogcaglphaaDoor.A
/- The least machine, plainly: what the parting ends with. -/
namespace Go.Proofs.YtpmjpogcaglphaaDoor.A
open Go
set_option maxRecDepth 20000
/-- Parted till there are as many classes as before (n); r: rounds at most. -/
def partF (N : List Int) (len : Nat) : Nat → List Nat → Nat → Option (List Nat)
  | 0, _, _ => none
  | r + 1, c, n => if (finM N c len).1.length = n then some (finM N c len).2 else partF N len r (finM N c len).2 (finM N c len).1.length
/-- The end of the parting: classes by classes of as many. -/
def Ended (N : List Int) (len : Nat) (x : List Nat) : Prop := ∃ c2 F1 c1 F2, FinAt N c2 len F1 c1 ∧ FinAt N c1 len F2 x ∧ F1.length = F2.length
theorem part_go {N : List Int} {len : Nat} (P : List Nat → Prop) (hP : ∀ c, c.length = len → P c → P (finM N c len).2) : ∀ (r : Nat) (c0 F c : List Nat), FinAt N c0 len F c → P c → len + 1 - F.length ≤ r → ∃ x, partF N len r c F.length = some x ∧ P x ∧ Ended N len x
  | 0, c0, F, c, h, _, hr => by
    have := h.most
    omega
  | r + 1, c0, F, c, h, hc, hr => by
    have h' := finM_at N c len
    have hg := (h.grow h').1
    rw [partF]
    by_cases he : (finM N c len).1.length = F.length
    · rw [if_pos he]
      exact ⟨_, rfl, hP c h.len hc, c0, F, c, _, h, h', he.symm⟩
    · rw [if_neg he]
      exact part_go P hP r c _ _ h' (hP c h.len hc) (by omega)
/-- From any classes on: as the loops of the program and of the document begin. -/
theorem part_all {N : List Int} {len : Nat} (hl : 1 ≤ len) (P : List Nat → Prop) (hP : ∀ c, c.length = len → P c → P (finM N c len).2) (c : List Nat) (hcl : c.length = len) (hc : P c) : ∃ x, partF N len (len + 2) c 0 = some x ∧ P x ∧ Ended N len x := by
  have h' := finM_at N c len
  obtain ⟨k, hk⟩ := h'.get (s := 0) (by omega)
  have hpos := (h'.lt hk).2
  rw [partF, if_neg (by omega)]
  exact part_go P hP (len + 1) c _ _ h' (hP c hcl hc) (by omega)
theorem Ended.same {N len x} (h : Ended N len x) {s t k : Nat} (hN : ∀ i, i < 5 * len → 0 ≤ N.getD i 0 ∧ N.getD i 0 < len) (hs : x[s]? = some k) (ht : x[t]? = some k) {m : Nat} (hm : m < 5) : x[(N.getD (s * 5 + m) 0).toNat]? = x[(N.getD (t * 5 + m) 0).toNat]? := by
  obtain ⟨c2, F1, c1, F2, h1, h2, he⟩ := h
  have hs2 := (h2.lt hs).1
  have ht2 := (h2.lt ht).1
  have e := kind_next ((h2.iff hs ht).1 rfl) hm
  have a := hN (s * 5 + m) (by omega)
  have b := hN (t * 5 + m) (by omega)
  obtain ⟨p, hp⟩ := h1.get (s := (N.getD (s * 5 + m) 0).toNat) (by omega)
  obtain ⟨q, hq⟩ := h1.get (s := (N.getD (t * 5 + m) 0).toNat) (by omega)
  rw [getD_of hp, getD_of hq] at e
  exact (h1.grow h2).2 he _ _ p hp (e ▸ hq)
end Go.Proofs.YtpmjpogcaglphaaDoor.A
/- The least machine, plainly: classes agree on accepting; two classes are told apart by a word. -/
namespace Go.Proofs.YtpmjpogcaglphaaDoor.A
open Go
set_option maxRecDepth 20000
def goS (N : List Int) : Nat → List Nat → Nat
  | s, [] => s
  | s, m :: w => goS N (N.getD (s * 5 + m) 0).toNat w
/-- One class, one answer. -/
def Agree (A : List Bool) (len : Nat) (c : List Nat) : Prop := ∀ s t : Nat, s < len → t < len → c.getD s 0 = c.getD t 0 → A.getD s false = A.getD t false
/-- Two classes, a word of which just one is taken. -/
def Told (N : List Int) (A : List Bool) (len : Nat) (c : List Nat) : Prop := ∀ s t : Nat, s < len → t < len → c.getD s 0 ≠ c.getD t 0 → ∃ w : List Nat, (∀ m ∈ w, m < 5) ∧ A.getD (goS N s w) false ≠ A.getD (goS N t w) false
theorem Agree.step {N : List Int} {A : List Bool} {len : Nat} {c : List Nat} (h : Agree A len c) : Agree A len (finM N c len).2 := fun s t hs ht e => by
  have h' := finM_at N c len
  obtain ⟨k, hk⟩ := h'.get hs
  obtain ⟨l, hl⟩ := h'.get ht
  rw [getD_of hk, getD_of hl] at e
  exact h s t hs ht (kind_head ((h'.iff hk hl).1 e))
theorem kind_differ {N : List Int} {c : List Nat} {s t : Nat} (h : kindM N c s ≠ kindM N c t) : c.getD s 0 ≠ c.getD t 0 ∨ ∃ m, m < 5 ∧ c.getD (N.getD (s * 5 + m) 0).toNat 0 ≠ c.getD (N.getD (t * 5 + m) 0).toNat 0 := by
  by_cases h0 : c.getD s 0 = c.getD t 0
  · refine .inr ?_
    by_cases hx : ∀ m, m < 5 → c.getD (N.getD (s * 5 + m) 0).toNat 0 = c.getD (N.getD (t * 5 + m) 0).toNat 0
    · refine absurd ?_ h
      unfold kindM
      rw [h0]
      refine congrArg (_ :: ·) (List.map_congr_left fun m hm => hx m (List.mem_range.1 hm))
    · obtain ⟨m, hm⟩ := Classical.not_forall.1 hx
      obtain ⟨h1, h2⟩ := Classical.not_imp.1 hm
      exact ⟨m, h1, h2⟩
  · exact .inl h0
theorem Told.step {N : List Int} {A : List Bool} {len : Nat} {c : List Nat} (hN : ∀ i, i < 5 * len → 0 ≤ N.getD i 0 ∧ N.getD i 0 < len) (h : Told N A len c) : Told N A len (finM N c len).2 := fun s t hs ht e => by
  have h' := finM_at N c len
  obtain ⟨k, hk⟩ := h'.get hs
  obtain ⟨l, hl⟩ := h'.get ht
  rw [getD_of hk, getD_of hl] at e
  rcases kind_differ (fun e2 => e ((h'.iff hk hl).2 e2)) with h0 | ⟨m, hm, h0⟩
  · exact h s t hs ht h0
  · have a := hN (s * 5 + m) (by omega)
    have b := hN (t * 5 + m) (by omega)
    obtain ⟨w, w1, w2⟩ := h (N.getD (s * 5 + m) 0).toNat (N.getD (t * 5 + m) 0).toNat (by omega) (by omega) h0
    refine ⟨m :: w, fun y hy => ?_, w2⟩
    rcases List.mem_cons.1 hy with rfl | hy
    · exact hm
    · exact w1 y hy
/-- Classes as they begin: by whether a state accepts. -/
def accM (A : List Bool) : List Nat := A.map fun b => if b then 1 else 0
theorem accM_get {A : List Bool} {s : Nat} (h : s < A.length) : (accM A).getD s 0 = if A.getD s false then 1 else 0 := by
  simp [accM, List.getD, h]
theorem accM_agree (A : List Bool) : Agree A A.length (accM A) := fun s t hs ht e => by
  rw [accM_get hs, accM_get ht] at e
  cases h1 : A.getD s false <;> cases h2 : A.getD t false <;> simp_all
theorem accM_told (N : List Int) (A : List Bool) : Told N A A.length (accM A) := fun s t hs ht e => by
  refine ⟨[], ⟨fun y hy => (List.not_mem_nil hy).elim, fun e2 => e ?_⟩⟩
  rw [accM_get hs, accM_get ht]
  change A.getD s false = A.getD t false at e2
  rw [e2]
/-- What the parting ends with: classes that agree, that the modes keep, that words tell apart. -/
theorem parted_end {N : List Int} {A : List Bool} (hl : 1 ≤ A.length) (hN : ∀ i, i < 5 * A.length → 0 ≤ N.getD i 0 ∧ N.getD i 0 < A.length) : ∃ x, partF N A.length (A.length + 2) (accM A) 0 = some x ∧ Agree A A.length x ∧ Told N A A.length x ∧ Ended N A.length x := by
  obtain ⟨x, h1, ⟨h2, h3⟩, h4⟩ := part_all (N := N) hl (fun c => Agree A A.length c ∧ Told N A A.length c) (fun c _ h => ⟨h.1.step, h.2.step hN⟩) (accM A) (by simp [accM]) ⟨accM_agree A, accM_told N A⟩
  exact ⟨x, h1, h2, h3, h4⟩
end Go.Proofs.YtpmjpogcaglphaaDoor.A
/- The least machine, plainly: classes numbered as they are met (stands: a state of each). -/
namespace Go.Proofs.YtpmjpogcaglphaaDoor.A
open Go
set_option maxRecDepth 20000
def metC (cl : Nat → Nat) (L : List Nat) (to : Nat) : Nat × List Nat :=
  match L.findIdx? (fun s => cl s == cl to) with
  | some k => (k, L)
  | none => (L.length, L ++ [to])
/-- The numbers of the first j next states of x, the stands behind. -/
def rowC (cl : Nat → Nat) (nx : Nat → Nat → Nat) (x : Nat) : Nat → List Nat → List Nat × List Nat
  | 0, L => ([], L)
  | j + 1, L => ((rowC cl nx x j L).1 ++ [(metC cl (rowC cl nx x j L).2 (nx x j)).1], (metC cl (rowC cl nx x j L).2 (nx x j)).2)
def DistC (cl : Nat → Nat) (L : List Nat) : Prop := ∀ i j s t : Nat, L[i]? = some s → L[j]? = some t → cl s = cl t → i = j
theorem metC_ok {cl : Nat → Nat} {L : List Nat} (h : DistC cl L) (to : Nat) : DistC cl (metC cl L to).2 ∧ (∀ i s : Nat, L[i]? = some s → (metC cl L to).2[i]? = some s) ∧ ∃ s, (metC cl L to).2[(metC cl L to).1]? = some s ∧ cl s = cl to := by
  unfold metC
  cases hf : L.findIdx? (fun s => cl s == cl to) with
  | some k =>
    obtain ⟨hk, hk2, _⟩ := List.findIdx?_eq_some_iff_getElem.1 hf
    exact ⟨h, fun i s hs => hs, _, List.getElem?_eq_getElem hk, by simpa using hk2⟩
  | none =>
    have hn : ∀ (k s : Nat), L[k]? = some s → cl s ≠ cl to := fun k s hs e => by
      have := List.findIdx?_eq_none_iff.1 hf s (List.mem_of_getElem? hs)
      rw [e] at this
      simp at this
    refine ⟨fun i j s t hs ht e => ?_, fun i s hs => get_snoc hs, to, by simp, rfl⟩
    rcases snoc_get hs with hs | ⟨h1, h2⟩ <;> rcases snoc_get ht with ht | ⟨h1', h2'⟩
    · exact h i j s t hs ht e
    · rw [h2'] at e; exact absurd e (hn i s hs)
    · rw [h2] at e; exact absurd e.symm (hn j t ht)
    · omega
theorem rowC_ok {cl : Nat → Nat} {nx : Nat → Nat → Nat} {x : Nat} {L : List Nat} (h : DistC cl L) : ∀ j : Nat, DistC cl (rowC cl nx x j L).2 ∧ (∀ i s : Nat, L[i]? = some s → (rowC cl nx x j L).2[i]? = some s) ∧ (rowC cl nx x j L).1.length = j ∧ ∀ m : Nat, m < j → ∃ k s : Nat, (rowC cl nx x j L).1[m]? = some k ∧ (rowC cl nx x j L).2[k]? = some s ∧ cl s = cl (nx x m)
  | 0 => ⟨h, fun _ _ hs => hs, rfl, fun m hm => by omega⟩
  | j + 1 => by
    obtain ⟨h1, h2, h3, h4⟩ := rowC_ok h j
    rw [rowC]
    generalize (rowC cl nx x j L).1 = R at *
    generalize (rowC cl nx x j L).2 = M at *
    obtain ⟨g1, g2, s, g3, g4⟩ := metC_ok h1 (nx x j)
    refine ⟨g1, fun i s hs => g2 i s (h2 i s hs), by simp [h3], fun m hm => ?_⟩
    by_cases hmj : m < j
    · obtain ⟨k, t, e1, e2, e3⟩ := h4 m hmj
      exact ⟨k, t, get_snoc e1, g2 k t e2, e3⟩
    · have : m = j := by omega
      subst this
      exact ⟨_, s, by show (R ++ [_])[m]? = _; rw [List.getElem?_append_right (by omega), h3]; simp, g3, g4⟩
/-- All stands' rows. -/
def goC (cl : Nat → Nat) (nx : Nat → Nat → Nat) : Nat → Nat → List Nat → List Nat → Option (List Nat × List Nat)
  | 0, _, _, _ => none
  | r + 1, i, L, R => match L[i]? with
    | none => some (L, R)
    | some x => goC cl nx r (i + 1) (rowC cl nx x 5 L).2 (R ++ (rowC cl nx x 5 L).1)
structure MidC (cl : Nat → Nat) (nx : Nat → Nat → Nat) (i : Nat) (L R : List Nat) : Prop where
  dist : DistC cl L
  le : i ≤ L.length
  len : R.length = i * 5
  row : ∀ a m : Nat, a < i → m < 5 → ∃ x k s : Nat, L[a]? = some x ∧ R[a * 5 + m]? = some k ∧ L[k]? = some s ∧ cl s = cl (nx x m)
theorem get_app {l r : List Nat} {k b : Nat} (h : l[k]? = some b) : (l ++ r)[k]? = some b := by
  rw [List.getElem?_append_left (List.getElem?_eq_some_iff.1 h).1]; exact h
theorem goC_mid {cl : Nat → Nat} {nx : Nat → Nat → Nat} : ∀ (r i : Nat) (L R : List Nat), MidC cl nx i L R → ∀ p, goC cl nx r i L R = some p → MidC cl nx p.1.length p.1 p.2 ∧ ∀ a s : Nat, L[a]? = some s → p.1[a]? = some s
  | 0, i, L, R, _, p, hp => by cases hp
  | r + 1, i, L, R, h, p, hp => by
    rw [goC] at hp
    cases hx : L[i]? with
    | none =>
      rw [hx] at hp
      injection hp with hp
      subst hp
      have h1 := List.getElem?_eq_none_iff.1 hx
      have h2 := h.le
      have : i = L.length := by omega
      subst this
      exact ⟨h, fun a s hs => hs⟩
    | some x =>
      rw [hx] at hp
      have hp : goC cl nx r (i + 1) (rowC cl nx x 5 L).2 (R ++ (rowC cl nx x 5 L).1) = some p := hp
      obtain ⟨h1, h2, h3, h4⟩ := rowC_ok (nx := nx) (x := x) h.dist 5
      have hx2 := h2 i x hx
      have hl := h.len
      obtain ⟨g1, g2⟩ := goC_mid r (i + 1) _ _ ⟨h1, (List.getElem?_eq_some_iff.1 hx2).1, by rw [List.length_append, h3, hl]; omega, fun a m ha hm => by
        by_cases hai : a < i
        · obtain ⟨y, k, s, e1, e2, e3, e4⟩ := h.row a m hai hm
          exact ⟨y, k, s, h2 a y e1, get_app e2, h2 k s e3, e4⟩
        · have : a = i := by omega
          subst this
          obtain ⟨k, s, e1, e2, e3⟩ := h4 m hm
          exact ⟨x, k, s, hx2, by rw [List.getElem?_append_right (by omega), hl, show a * 5 + m - a * 5 = m by omega]; exact e1, e2, e3⟩⟩ p hp
      exact ⟨g1, fun a s hs => g2 a s (h2 a s hs)⟩
theorem distC_le {cl : Nat → Nat} {n : Nat} (hc : ∀ s, cl s < n) {L : List Nat} (h : DistC cl L) : L.length ≤ n := by
  have hnd : (L.map cl).Nodup := by
    unfold List.Nodup
    rw [List.pairwise_map, List.pairwise_iff_getElem]
    intro i j hi hj hij e
    have := h i j _ _ (List.getElem?_eq_getElem hi) (List.getElem?_eq_getElem hj) e
    omega
  have := List.Nodup.length_le_of_subset hnd (l₂ := List.range n) (fun y hy => by
    obtain ⟨s, _, rfl⟩ := List.mem_map.1 hy
    exact List.mem_range.2 (hc s))
  rwa [List.length_map, List.length_range] at this
theorem goC_some {cl : Nat → Nat} {nx : Nat → Nat → Nat} {n : Nat} (hc : ∀ s, cl s < n) : ∀ (r i : Nat) (L R : List Nat), DistC cl L → i ≤ L.length → n + 1 - i ≤ r → ∃ p, goC cl nx r i L R = some p
  | 0, i, L, R, h, hi, hr => by
    have := distC_le hc h
    omega
  | r + 1, i, L, R, h, hi, hr => by
    rw [goC]
    cases hx : L[i]? with
    | none => exact ⟨_, rfl⟩
    | some x =>
      obtain ⟨h1, h2, _, _⟩ := rowC_ok (nx := nx) (x := x) h 5
      have := (List.getElem?_eq_some_iff.1 (h2 i x hx)).1
      exact goC_some hc r (i + 1) _ _ h1 this (by omega)
end Go.Proofs.YtpmjpogcaglphaaDoor.A
/- The least machine, plainly: the made machine goes as the first one. -/
namespace Go.Proofs.YtpmjpogcaglphaaDoor.A
open Go
set_option maxRecDepth 20000
theorem Ended.get {N len x} (h : Ended N len x) {s : Nat} (hs : s < len) : ∃ k, x[s]? = some k := by
  obtain ⟨c2, F1, c1, F2, h1, h2, he⟩ := h
  exact h2.get hs
theorem made_go {N : List Int} {len : Nat} {x L R : List Nat} (hE : Ended N len x) (hN : ∀ i, i < 5 * len → 0 ≤ N.getD i 0 ∧ N.getD i 0 < len) (hL : ∀ a s : Nat, L[a]? = some s → s < len)
    (h : MidC (fun s => x.getD s 0) (fun s m => (N.getD (s * 5 + m) 0).toNat) L.length L R) : ∀ (w : List Nat) (a s s0 : Nat), (∀ m ∈ w, m < 5) → L[a]? = some s → s0 < len → x[s]? = x[s0]? → ∃ t, L[goS (R.map fun k : Nat => (k : Int)) a w]? = some t ∧ x[t]? = x[goS N s0 w]?
  | [], a, s, s0, _, hs, _, he => ⟨s, hs, he⟩
  | m :: w, a, s, s0, hw, hs, h0, he => by
    have hm := hw m (List.mem_cons_self ..)
    have hsl := hL a s hs
    obtain ⟨y, k, t, e1, e2, e3, e4⟩ := h.row a m (List.getElem?_eq_some_iff.1 hs).1 hm
    rw [hs] at e1
    injection e1 with e1
    subst e1
    have htl := hL k t e3
    have b1 := hN (s * 5 + m) (by omega)
    have b2 := hN (s0 * 5 + m) (by omega)
    obtain ⟨p, hp⟩ := hE.get htl
    obtain ⟨q, hq⟩ := hE.get (s := (N.getD (s * 5 + m) 0).toNat) (by omega)
    have e4 : x.getD t 0 = x.getD (N.getD (s * 5 + m) 0).toNat 0 := e4
    rw [getD_of hp, getD_of hq] at e4
    obtain ⟨c, hc⟩ := hE.get hsl
    have e5 := hE.same hN hc (he ▸ hc) hm
    have e6 : (R.map fun k : Nat => (k : Int)).getD (a * 5 + m) 0 = k := by simp [List.getD, e2]
    obtain ⟨u, u1, u2⟩ := made_go hE hN hL h w k t (N.getD (s0 * 5 + m) 0).toNat (fun z hz => hw z (List.mem_cons_of_mem _ hz)) e3 (by omega) (by rw [hp, ← e5, hq, e4])
    refine ⟨u, ?_, u2⟩
    rw [goS, e6]
    exact u1
theorem metC_all {cl : Nat → Nat} {L : List Nat} {to : Nat} {p : Nat → Prop} (h : ∀ s ∈ L, p s) (ht : p to) : ∀ s ∈ (metC cl L to).2, p s := by
  unfold metC
  cases L.findIdx? (fun s => cl s == cl to) with
  | some k => exact h
  | none =>
    intro s hs
    rcases List.mem_append.1 hs with hs | hs
    · exact h s hs
    · rw [List.mem_singleton.1 hs]; exact ht
theorem rowC_all {cl : Nat → Nat} {nx : Nat → Nat → Nat} {x : Nat} {L : List Nat} {p : Nat → Prop} (h : ∀ s ∈ L, p s) : ∀ j : Nat, (∀ m, m < j → p (nx x m)) → ∀ s ∈ (rowC cl nx x j L).2, p s
  | 0, _ => h
  | j + 1, hn => by
    rw [rowC]
    exact metC_all (rowC_all h j (fun m hm => hn m (by omega))) (hn j (by omega))
theorem goC_all {cl : Nat → Nat} {nx : Nat → Nat → Nat} {p : Nat → Prop} (hn : ∀ x m, p x → m < 5 → p (nx x m)) : ∀ (r i : Nat) (L R : List Nat), (∀ s ∈ L, p s) → ∀ q, goC cl nx r i L R = some q → ∀ s ∈ q.1, p s
  | 0, i, L, R, _, q, hq => by cases hq
  | r + 1, i, L, R, h, q, hq => by
    rw [goC] at hq
    cases hx : L[i]? with
    | none =>
      rw [hx] at hq
      injection hq with hq
      subst hq
      exact h
    | some x =>
      rw [hx] at hq
      have hq : goC cl nx r (i + 1) (rowC cl nx x 5 L).2 (R ++ (rowC cl nx x 5 L).1) = some q := hq
      exact goC_all hn r (i + 1) _ _ (rowC_all h 5 (fun m hm => hn x m (h x (List.mem_of_getElem? hx)) hm)) q hq
end Go.Proofs.YtpmjpogcaglphaaDoor.A
/- The least machine, plainly: it is the same for all machines of one language; two states of it are told apart. -/
namespace Go.Proofs.YtpmjpogcaglphaaDoor.A
open Go
set_option maxRecDepth 20000
/-- A state of one machine and one of another take the same words. -/
def Eqv (N : List Int) (A : List Bool) (M : List Int) (B : List Bool) (s t : Nat) : Prop := ∀ w : List Nat, (∀ m ∈ w, m < 5) → A.getD (goS N s w) false = B.getD (goS M t w) false
theorem Eqv.symm {N A M B s t} (h : Eqv N A M B s t) : Eqv M B N A t s := fun w hw => (h w hw).symm
theorem Eqv.trans {N A M B K C s t u} (h : Eqv N A M B s t) (h' : Eqv M B K C t u) : Eqv N A K C s u := fun w hw => (h w hw).trans (h' w hw)
theorem Eqv.refl (N A s) : Eqv N A N A s s := fun w hw => rfl
theorem Eqv.next {N A M B s t m} (h : Eqv N A M B s t) (hm : m < 5) : Eqv N A M B (N.getD (s * 5 + m) 0).toNat (M.getD (t * 5 + m) 0).toNat := fun w hw => by
  have := h (m :: w) (fun y hy => by
    rcases List.mem_cons.1 hy with rfl | hy
    · exact hm
    · exact hw y hy)
  exact this
theorem Eqv.acc {N A M B s t} (h : Eqv N A M B s t) : A.getD s false = B.getD t false := h [] (fun y hy => (List.not_mem_nil hy).elim)
/-- What machine may be: plainly. -/
structure OkD (N : List Int) (A : List Bool) : Prop where
  l : 1 ≤ A.length
  e : ∀ i, i < 5 * A.length → 0 ≤ N.getD i 0 ∧ N.getD i 0 < A.length
theorem OkD.next {N A} (h : OkD N A) {s m : Nat} (hs : s < A.length) (hm : m < 5) : (N.getD (s * 5 + m) 0).toNat < A.length := by
  have := h.e (s * 5 + m) (by omega)
  omega
theorem OkD.go {N A} (h : OkD N A) : ∀ (w : List Nat) (s : Nat), (∀ m ∈ w, m < 5) → s < A.length → goS N s w < A.length
  | [], s, _, hs => hs
  | m :: w, s, hw, hs => h.go w _ (fun y hy => hw y (List.mem_cons_of_mem _ hy)) (h.next hs (hw m (List.mem_cons_self ..)))
theorem cls_iff {N A x} (h : OkD N A) (h1 : Agree A A.length x) (h2 : Told N A A.length x) (h3 : Ended N A.length x) {s t : Nat} (hs : s < A.length) (ht : t < A.length) : x.getD s 0 = x.getD t 0 ↔ Eqv N A N A s t := by
  constructor
  · intro e w
    induction w generalizing s t with
    | nil => exact fun _ => h1 s t hs ht e
    | cons m w ih =>
      intro hw
      have hm := hw m (List.mem_cons_self ..)
      obtain ⟨k, hk⟩ := h3.get hs
      obtain ⟨l, hl⟩ := h3.get ht
      rw [getD_of hk, getD_of hl] at e
      subst e
      have e2 := h3.same h.e hk hl hm
      refine ih (h.next hs hm) (h.next ht hm) ?_ (fun y hy => hw y (List.mem_cons_of_mem _ hy))
      exact congrArg (fun o : Option Nat => o.getD 0) e2
  · intro he
    by_cases e : x.getD s 0 = x.getD t 0
    · exact e
    · obtain ⟨w, w1, w2⟩ := h2 s t hs ht e
      exact absurd (he w w1) w2
/-! ### two machines go side by side -/
def Rl (E : Nat → Nat → Prop) (L L' : List Nat) : Prop := L.length = L'.length ∧ ∀ i s s' : Nat, L[i]? = some s → L'[i]? = some s' → E s s'
theorem Rl.snoc {E : Nat → Nat → Prop} {L L' : List Nat} (h : Rl E L L') {s s' : Nat} (hs : E s s') : Rl E (L ++ [s]) (L' ++ [s']) := by
  refine ⟨by simp [h.1], fun i a a' ha ha' => ?_⟩
  rcases snoc_get ha with ha | ⟨h1, h2⟩ <;> rcases snoc_get ha' with ha' | ⟨h1', h2'⟩
  · exact h.2 i a a' ha ha'
  · have := (List.getElem?_eq_some_iff.1 ha).1
    have := h.1
    omega
  · have := (List.getElem?_eq_some_iff.1 ha').1
    have := h.1
    omega
  · rw [h2, h2']; exact hs
theorem Rl.get {E : Nat → Nat → Prop} {L L' : List Nat} (h : Rl E L L') (i : Nat) : (L[i]? = none ∧ L'[i]? = none) ∨ ∃ s s', L[i]? = some s ∧ L'[i]? = some s' ∧ E s s' := by
  have hl := h.1
  by_cases hi : i < L.length
  · have e1 := List.getElem?_eq_getElem hi
    have e2 := List.getElem?_eq_getElem (l := L') (i := i) (by omega)
    exact .inr ⟨_, _, e1, e2, h.2 _ _ _ e1 e2⟩
  · exact .inl ⟨List.getElem?_eq_none (by omega), List.getElem?_eq_none (by omega)⟩
section
variable {cl cl' : Nat → Nat} {nx nx' : Nat → Nat → Nat} {E : Nat → Nat → Prop} (h1 : ∀ s s' t t', E s s' → E t t' → (cl s = cl t ↔ cl' s' = cl' t')) (h2 : ∀ s s' m, m < 5 → E s s' → E (nx s m) (nx' s' m))
include h1 in
theorem metC_lock {L L' : List Nat} (hL : Rl E L L') {to to' : Nat} (ht : E to to') : (metC cl L to).1 = (metC cl' L' to').1 ∧ Rl E (metC cl L to).2 (metC cl' L' to').2 := by
  have he : L.findIdx? (fun s => cl s == cl to) = L'.findIdx? (fun s => cl' s == cl' to') := by
    have e : L.map (fun s => cl s == cl to) = L'.map (fun s => cl' s == cl' to') := by
      refine List.ext_getElem? fun i => ?_
      rw [List.getElem?_map, List.getElem?_map]
      rcases hL.get i with ⟨e1, e2⟩ | ⟨s, s', e1, e2, e3⟩
      · rw [e1, e2]; rfl
      · rw [e1, e2]
        have := h1 s s' to to' e3 ht
        simp only [Option.map_some, Option.some.injEq]
        rw [Bool.eq_iff_iff]
        simpa using this
    have e3 := congrArg (List.findIdx? id) e
    rw [List.findIdx?_map, List.findIdx?_map] at e3
    exact e3
  unfold metC
  rw [he]
  cases L'.findIdx? (fun s => cl' s == cl' to') with
  | some k => exact ⟨rfl, hL⟩
  | none => exact ⟨hL.1, hL.snoc ht⟩
include h1 h2 in
theorem rowC_lock {L L' : List Nat} (hL : Rl E L L') {x x' : Nat} (hx : E x x') : ∀ j, j ≤ 5 → (rowC cl nx x j L).1 = (rowC cl' nx' x' j L').1 ∧ Rl E (rowC cl nx x j L).2 (rowC cl' nx' x' j L').2
  | 0, _ => ⟨rfl, hL⟩
  | j + 1, hj => by
    obtain ⟨i1, i2⟩ := rowC_lock hL hx j (by omega)
    obtain ⟨g1, g2⟩ := metC_lock h1 i2 (h2 x x' j (by omega) hx)
    rw [rowC, rowC]
    exact ⟨by rw [i1, g1], g2⟩
include h1 h2 in
theorem goC_lock : ∀ (r r' i : Nat) (L L' R : List Nat) (p p' : List Nat × List Nat), Rl E L L' → goC cl nx r i L R = some p → goC cl' nx' r' i L' R = some p' → Rl E p.1 p'.1 ∧ p.2 = p'.2
  | 0, _, _, _, _, _, _, _, _, h, _ => by cases h
  | r + 1, 0, _, _, _, _, _, _, _, _, h => by cases h
  | r + 1, r' + 1, i, L, L', R, p, p', hL, h, h' => by
    rw [goC] at h h'
    rcases hL.get i with ⟨e1, e2⟩ | ⟨s, s', e1, e2, e3⟩
    · rw [e1] at h
      rw [e2] at h'
      injection h with h
      injection h' with h'
      subst h h'
      exact ⟨hL, rfl⟩
    · rw [e1] at h
      rw [e2] at h'
      have h : goC cl nx r (i + 1) (rowC cl nx s 5 L).2 (R ++ (rowC cl nx s 5 L).1) = some p := h
      have h' : goC cl' nx' r' (i + 1) (rowC cl' nx' s' 5 L').2 (R ++ (rowC cl' nx' s' 5 L').1) = some p' := h'
      obtain ⟨g1, g2⟩ := rowC_lock h1 h2 hL e3 5 (Nat.le_refl _)
      rw [← g1] at h'
      exact goC_lock r r' (i + 1) _ _ _ p p' g2 h h'
end
/-! ### the least machine -/
def clsOf (N : List Int) (A : List Bool) : List Nat := (partF N A.length (A.length + 2) (accM A) 0).getD []
def nxOf (N : List Int) (s m : Nat) : Nat := (N.getD (s * 5 + m) 0).toNat
def minLR (N : List Int) (A : List Bool) : List Nat × List Nat := (goC (fun s => (clsOf N A).getD s 0) (nxOf N) (A.length + 2) 0 [0] []).getD ([], [])
def minN (N : List Int) (A : List Bool) : List Int := (minLR N A).2.map fun k : Nat => (k : Int)
def minA (N : List Int) (A : List Bool) : List Bool := (minLR N A).1.map fun s => A.getD s false
theorem cls_spec {N A} (h : OkD N A) : partF N A.length (A.length + 2) (accM A) 0 = some (clsOf N A) ∧ Agree A A.length (clsOf N A) ∧ Told N A A.length (clsOf N A) ∧ Ended N A.length (clsOf N A) := by
  obtain ⟨x, h1, h2, h3, h4⟩ := parted_end h.l h.e
  have e : clsOf N A = x := by rw [clsOf, h1]; rfl
  rw [e]
  exact ⟨h1, h2, h3, h4⟩
theorem cls_eqv {N A} (h : OkD N A) {s t : Nat} (hs : s < A.length) (ht : t < A.length) : (clsOf N A).getD s 0 = (clsOf N A).getD t 0 ↔ Eqv N A N A s t := by
  obtain ⟨_, h2, h3, h4⟩ := cls_spec h
  exact cls_iff h h2 h3 h4 hs ht
theorem cls_lt {N A} (h : OkD N A) (s : Nat) : (clsOf N A).getD s 0 < A.length := by
  obtain ⟨_, _, _, c2, F1, c1, F2, h1, h2, he⟩ := cls_spec h
  have hl := h.l
  cases hx : (clsOf N A)[s]? with
  | none => simp only [List.getD, hx]; exact hl
  | some k =>
    have := (h2.lt hx).2
    have := h2.most
    simp only [List.getD, hx]
    exact Nat.lt_of_lt_of_le (by assumption) (by assumption)
theorem distC_one (cl : Nat → Nat) (s : Nat) : DistC cl [s] := fun i j a b ha hb _ => by
  have h1 := (List.getElem?_eq_some_iff.1 ha).1
  have h2 := (List.getElem?_eq_some_iff.1 hb).1
  simp at h1 h2
  omega
structure MinOk (N : List Int) (A : List Bool) (L R : List Nat) : Prop where
  run : goC (fun s => (clsOf N A).getD s 0) (nxOf N) (A.length + 2) 0 [0] [] = some (L, R)
  mid : MidC (fun s => (clsOf N A).getD s 0) (nxOf N) L.length L R
  head : L[0]? = some 0
  lt : ∀ a s : Nat, L[a]? = some s → s < A.length
theorem min_ok {N A} (h : OkD N A) : MinOk N A (minLR N A).1 (minLR N A).2 := by
  have hl := h.l
  obtain ⟨p, hp⟩ := goC_some (cl := fun s => (clsOf N A).getD s 0) (nx := nxOf N) (n := A.length) (fun s => cls_lt h s) (A.length + 2) 0 [0] [] (distC_one _ 0) (by simp) (by omega)
  have e : minLR N A = p := by rw [minLR, hp]; rfl
  rw [e]
  obtain ⟨h1, h2⟩ := goC_mid _ _ _ _ ⟨distC_one _ 0, by simp, rfl, fun a m ha => by omega⟩ p hp
  have h3 := goC_all (p := fun s => s < A.length) (fun x m hx hm => h.next hx hm) _ _ _ _ (fun s hs => by rw [List.mem_singleton.1 hs]; exact hl) p hp
  exact ⟨hp, h1, h2 0 0 rfl, fun a s hs => h3 s (List.mem_of_getElem? hs)⟩
theorem minA_len (N A) : (minA N A).length = (minLR N A).1.length := by simp [minA]
theorem minN_len {N A} (h : OkD N A) : (minN N A).length = 5 * (minA N A).length := by
  have := (min_ok h).mid.len
  rw [minN, List.length_map, minA_len]
  omega
theorem min_le {N A} (h : OkD N A) : 1 ≤ (minA N A).length ∧ (minA N A).length ≤ A.length := by
  have hm := min_ok h
  rw [minA_len]
  refine ⟨(List.getElem?_eq_some_iff.1 hm.head).1, distC_le (fun s => cls_lt h s) hm.mid.dist⟩
theorem minN_at {N A} (h : OkD N A) {a m : Nat} (ha : a < (minA N A).length) (hm : m < 5) : ∃ x k s : Nat, (minLR N A).1[a]? = some x ∧ (minN N A).getD (a * 5 + m) 0 = (k : Int) ∧ k < (minA N A).length ∧ (minLR N A).1[k]? = some s ∧ (clsOf N A).getD s 0 = (clsOf N A).getD (nxOf N x m) 0 := by
  rw [minA_len] at ha
  obtain ⟨x, k, s, e1, e2, e3, e4⟩ := (min_ok h).mid.row a m ha hm
  exact ⟨x, k, s, e1, by simp [minN, List.getD, e2], by rw [minA_len]; exact (List.getElem?_eq_some_iff.1 e3).1, e3, e4⟩
theorem min_okD {N A} (h : OkD N A) : OkD (minN N A) (minA N A) := by
  refine ⟨(min_le h).1, fun i hi => ?_⟩
  obtain ⟨x, k, s, _, e2, e3, _⟩ := minN_at h (a := i / 5) (m := i % 5) (by omega) (by omega)
  rw [show i = i / 5 * 5 + i % 5 by omega, e2]
  omega
theorem minA_at {N A} {a s : Nat} (hs : (minLR N A).1[a]? = some s) : (minA N A).getD a false = A.getD s false := by simp [minA, List.getD, hs]
/-- A state of the least machine takes what the state that stands for it takes. -/
theorem min_stand {N A} (h : OkD N A) {a s : Nat} (hs : (minLR N A).1[a]? = some s) : Eqv N A (minN N A) (minA N A) s a := fun w hw => by
  have hm := min_ok h
  obtain ⟨_, h2, _, h4⟩ := cls_spec h
  obtain ⟨t, h5, h6⟩ := made_go h4 h.e hm.lt hm.mid w a s s hw hs (hm.lt a s hs) rfl
  have h5 : (minLR N A).1[goS (minN N A) a w]? = some t := h5
  rw [minA_at h5]
  refine (h2 t _ (hm.lt _ _ h5) (h.go w s hw (hm.lt a s hs)) ?_).symm
  exact congrArg (fun o : Option Nat => o.getD 0) h6
theorem min_eqv {N A} (h : OkD N A) : Eqv N A (minN N A) (minA N A) 0 0 := min_stand h (min_ok h).head
/-- Two states of it take different words. -/
theorem min_apart {N A} (h : OkD N A) {i j : Nat} (hi : i < (minA N A).length) (hj : j < (minA N A).length) (he : Eqv (minN N A) (minA N A) (minN N A) (minA N A) i j) : i = j := by
  rw [minA_len] at hi hj
  have hm := min_ok h
  have ei := List.getElem?_eq_getElem hi
  have ej := List.getElem?_eq_getElem hj
  have hs := hm.lt _ _ ei
  have ht := hm.lt _ _ ej
  exact hm.mid.dist i j _ _ ei ej ((cls_eqv h hs ht).2 (((min_stand h ei).trans he).trans (min_stand h ej).symm))
/-- Machines of one language have one least machine. -/
theorem min_one {N A M B} (h : OkD N A) (h' : OkD M B) (he : Eqv N A M B 0 0) : minN N A = minN M B ∧ minA N A = minA M B := by
  have hm := min_ok h
  have hm' := min_ok h'
  obtain ⟨g1, g2⟩ := goC_lock (cl := fun s => (clsOf N A).getD s 0) (cl' := fun s => (clsOf M B).getD s 0) (nx := nxOf N) (nx' := nxOf M) (E := fun s t => s < A.length ∧ t < B.length ∧ Eqv N A M B s t)
    (fun s s' t t' ⟨a1, a2, a3⟩ ⟨b1, b2, b3⟩ => by
      rw [cls_eqv h a1 b1, cls_eqv h' a2 b2]
      exact ⟨fun e => (a3.symm.trans e).trans b3, fun e => (a3.trans e).trans b3.symm⟩)
    (fun s s' m hm ⟨a1, a2, a3⟩ => ⟨h.next a1 hm, h'.next a2 hm, a3.next hm⟩)
    _ _ _ _ _ _ _ _ (⟨rfl, fun i a b ha hb => by
      have h1 := (List.getElem?_eq_some_iff.1 ha).1
      simp at h1
      subst h1
      simp at ha hb
      subst ha hb
      exact ⟨h.l, h'.l, he⟩⟩) hm.run hm'.run
  refine ⟨by rw [minN, minN]; exact congrArg _ g2, ?_⟩
  refine List.ext_getElem? fun i => ?_
  rw [minA, minA, List.getElem?_map, List.getElem?_map]
  rcases g1.get i with ⟨e1, e2⟩ | ⟨s, s', e1, e2, e3⟩
  · have e1 : (minLR N A).1[i]? = none := e1
    have e2 : (minLR M B).1[i]? = none := e2
    rw [e1, e2]; rfl
  · have e1 : (minLR N A).1[i]? = some s := e1
    have e2 : (minLR M B).1[i]? = some s' := e2
    rw [e1, e2]
    simp only [Option.map_some]
    rw [e3.2.2.acc]
/-- Made least again it stays. -/
theorem min_again {N A} (h : OkD N A) : minN (minN N A) (minA N A) = minN N A ∧ minA (minN N A) (minA N A) = minA N A := by
  obtain ⟨h1, h2⟩ := min_one h (min_okD h) (min_eqv h)
  exact ⟨h1.symm, h2.symm⟩
theorem flip_at {A : List Bool} {s : Nat} (h : s < A.length) : (A.map (!·)).getD s false = !A.getD s false := by simp [List.getD, h]
theorem flip_okD {N A} (h : OkD N A) : OkD N (A.map (!·)) := ⟨by rw [List.length_map]; exact h.l, by rw [List.length_map]; exact h.e⟩
theorem flip_eqv {N A M B s t} (h : OkD N A) (h' : OkD M B) (hs : s < A.length) (ht : t < B.length) : Eqv N (A.map (!·)) M (B.map (!·)) s t ↔ Eqv N A M B s t := by
  constructor
  · intro he w hw
    have := he w hw
    rw [flip_at (h.go w s hw hs), flip_at (h'.go w t hw ht)] at this
    simpa using this
  · intro he w hw
    rw [flip_at (h.go w s hw hs), flip_at (h'.go w t hw ht), he w hw]
/-- With all states turned the least machine is the least one of what is not taken. -/
theorem min_flip {N A} (h : OkD N A) : minN N (A.map (!·)) = minN N A ∧ minA N (A.map (!·)) = (minA N A).map (!·) := by
  have hf := flip_okD h
  have hm := min_ok h
  have hm' := min_ok hf
  obtain ⟨g1, g2⟩ := goC_lock (cl := fun s => (clsOf N A).getD s 0) (cl' := fun s => (clsOf N (A.map (!·))).getD s 0) (nx := nxOf N) (nx' := nxOf N) (E := fun s t => s < A.length ∧ s = t)
    (fun s s' t t' ⟨a1, a2⟩ ⟨b1, b2⟩ => by
      subst a2 b2
      rw [cls_eqv h a1 b1, cls_eqv hf (by rw [List.length_map]; exact a1) (by rw [List.length_map]; exact b1), flip_eqv h h a1 b1])
    (fun s s' m hm ⟨a1, a2⟩ => ⟨h.next a1 hm, by rw [a2]⟩)
    _ _ _ _ _ _ _ _ (⟨rfl, fun i a b ha hb => by
      have h1 := (List.getElem?_eq_some_iff.1 ha).1
      simp at h1
      subst h1
      simp at ha hb
      subst ha hb
      exact ⟨h.l, rfl⟩⟩) hm.run hm'.run
  refine ⟨by rw [minN, minN]; exact congrArg _ g2.symm, ?_⟩
  refine List.ext_getElem? fun i => ?_
  rw [List.getElem?_map, minA, minA, List.getElem?_map, List.getElem?_map]
  rcases g1.get i with ⟨e1, e2⟩ | ⟨s, s', e1, e2, e3⟩
  · have e1 : (minLR N A).1[i]? = none := e1
    have e2 : (minLR N (A.map (!·))).1[i]? = none := e2
    rw [e1, e2]; rfl
  · have e1 : (minLR N A).1[i]? = some s := e1
    have e2 : (minLR N (A.map (!·))).1[i]? = some s' := e2
    rw [e1, e2]
    simp only [Option.map_some]
    rw [← e3.2, flip_at e3.1]
theorem flip_again {N A} (h : OkD N A) : minN (minN N A) ((minA N A).map (!·)) = minN N A ∧ minA (minN N A) ((minA N A).map (!·)) = (minA N A).map (!·) := by
  have h' := min_okD h
  obtain ⟨h1, h2⟩ := min_flip h'
  obtain ⟨h3, h4⟩ := min_again h
  rw [h1, h2, h3, h4]
  exact ⟨rfl, rfl⟩
end Go.Proofs.YtpmjpogcaglphaaDoor.A
/- Two machines, plainly: pairs of states as they are met; the first word that tells them apart. -/
namespace Go.Proofs.YtpmjpogcaglphaaDoor.A
open Go
set_option maxRecDepth 20000
/-- A word's number: words of fewer modes first, then by their modes. -/
def codeW (w : List Nat) : Nat := w.foldl (fun c m => 5 * c + m + 1) 0
theorem codeW_snoc (w : List Nat) (m : Nat) : codeW (w ++ [m]) = 5 * codeW w + m + 1 := by simp [codeW]
/-- Two states that are met: behind which ones, by which mode; the word that leads there. -/
structure Ent where
  x : Nat
  y : Nat
  b : Int
  m : Nat
  w : List Nat
def ent0 : Ent := ⟨0, 0, -1, 0, []⟩
def entN (N M : List Int) (i : Nat) (e : Ent) (m : Nat) : Ent := ⟨nxOf N e.x m, nxOf M e.y m, i, m, e.w ++ [m]⟩
def pMet (l : List Ent) (e : Ent) : List Ent := if l.any (fun p => p.x == e.x && p.y == e.y) then l else l ++ [e]
def pRow (N M : List Int) (i : Nat) (e : Ent) : Nat → List Ent → List Ent
  | 0, l => l
  | m + 1, l => pMet (pRow N M i e m l) (entN N M i e m)
def pFar (N : List Int) (A : List Bool) (M : List Int) (B : List Bool) : Nat → Nat → List Ent → Option (Option (List Nat))
  | 0, _, _ => none
  | r + 1, i, l => match l[i]? with
    | none => some none
    | some e => if A.getD e.x false = B.getD e.y false then pFar N A M B r (i + 1) (pRow N M i e 5 l) else some (some e.w)
structure QMid (N : List Int) (A : List Bool) (M : List Int) (B : List Bool) (i : Nat) (l : List Ent) (c : Nat) : Prop where
  head : l[0]? = some ent0
  back : ∀ (k : Nat) e, l[k]? = some e → 0 < k → ∃ (j : Nat) (f : Ent), e.b = (j : Int) ∧ j < k ∧ e.m < 5 ∧ l[j]? = some f ∧ e.w = f.w ++ [e.m]
  word : ∀ e ∈ l, (∀ z ∈ e.w, z < 5) ∧ goS N 0 e.w = e.x ∧ goS M 0 e.w = e.y
  mono : ∀ (j k : Nat) e f, l[j]? = some e → l[k]? = some f → j < k → codeW e.w < codeW f.w
  top : ∀ e ∈ l, codeW e.w < c
  done : ∀ (k : Nat) e, k < i → l[k]? = some e → A.getD e.x false = B.getD e.y false ∧ ∀ m, m < 5 → ∃ f ∈ l, f.x = nxOf N e.x m ∧ f.y = nxOf M e.y m ∧ codeW f.w ≤ 5 * codeW e.w + m + 1
  uniq : ∀ (j k : Nat) e f, l[j]? = some e → l[k]? = some f → e.x = f.x → e.y = f.y → j = k
theorem goS_snoc (N : List Int) : ∀ (w : List Nat) (s m : Nat), goS N s (w ++ [m]) = nxOf N (goS N s w) m
  | [], _, _ => rfl
  | a :: w, s, m => by
    rw [List.cons_append, goS, goS]
    exact goS_snoc N w _ m
theorem ent_get {l : List Ent} {a b : Ent} {k : Nat} (h : l[k]? = some b) : (l ++ [a])[k]? = some b := get_snoc h
theorem pMet_get {l : List Ent} {e f : Ent} {k : Nat} (h : l[k]? = some f) : (pMet l e)[k]? = some f := by
  unfold pMet
  split
  · exact h
  · exact get_snoc h
theorem pMet_mem {l : List Ent} {e f : Ent} (h : f ∈ l) : f ∈ pMet l e := by
  unfold pMet
  split
  · exact h
  · exact List.mem_append_left _ h
theorem pMet_of {l : List Ent} {e f : Ent} {k : Nat} (h : (pMet l e)[k]? = some f) : l[k]? = some f ∨ (k = l.length ∧ f = e ∧ ∀ p ∈ l, ¬ (p.x = e.x ∧ p.y = e.y)) := by
  unfold pMet at h
  split at h
  · exact .inl h
  · rename_i hn
    rcases snoc_get h with h | ⟨h1, h2⟩
    · exact .inl h
    · refine .inr ⟨h1, h2, fun p hp hc => hn ?_⟩
      rw [List.any_eq_true]
      exact ⟨p, hp, by simp [hc.1, hc.2]⟩
theorem pMet_in (l : List Ent) (e : Ent) : ∃ f ∈ pMet l e, f.x = e.x ∧ f.y = e.y ∧ (f ∈ l ∨ f = e) := by
  unfold pMet
  split
  · rename_i h
    obtain ⟨p, hp, h⟩ := List.any_eq_true.1 h
    simp only [Bool.and_eq_true, beq_iff_eq] at h
    exact ⟨p, hp, h.1, h.2, .inl hp⟩
  · exact ⟨e, by simp, rfl, rfl, .inr rfl⟩
theorem pMet_all {l : List Ent} {e : Ent} {p : Ent → Prop} (h : ∀ f ∈ l, p f) (he : p e) : ∀ f ∈ pMet l e, p f := by
  unfold pMet
  split
  · exact h
  · intro f hf
    rcases List.mem_append.1 hf with hf | hf
    · exact h f hf
    · rw [List.mem_singleton.1 hf]; exact he
/-- In the midst of a row. -/
structure QRow (N : List Int) (A : List Bool) (M : List Int) (B : List Bool) (i : Nat) (e : Ent) (j : Nat) (l : List Ent) : Prop where
  mid : QMid N A M B i l (5 * codeW e.w + j + 1)
  at_ : l[i]? = some e
  acc : A.getD e.x false = B.getD e.y false
  row : ∀ m, m < j → ∃ f ∈ l, f.x = nxOf N e.x m ∧ f.y = nxOf M e.y m ∧ codeW f.w ≤ 5 * codeW e.w + m + 1
theorem QRow.step {N A M B i e j l} (h : QRow N A M B i e j l) (hj : j < 5) : QRow N A M B i e (j + 1) (pMet l (entN N M i e j)) := by
  have hw := h.mid.word e (List.mem_of_getElem? h.at_)
  have hc : codeW (entN N M i e j).w = 5 * codeW e.w + j + 1 := codeW_snoc e.w j
  refine ⟨⟨pMet_get h.mid.head, fun k f hk hp => ?_, pMet_all h.mid.word ⟨fun z hz => ?_, ?_, ?_⟩, fun a b f g hf hg hab => ?_, pMet_all (fun f hf => by have := h.mid.top f hf; omega) (by rw [hc]; omega), fun k f hk hf => ?_, fun a b f g hf hg ex ey => ?_⟩, pMet_get h.at_, h.acc, fun m hm => ?_⟩
  · rcases pMet_of hk with hk | ⟨h1, h2, _⟩
    · obtain ⟨q, g, e1, e2, e3, e4, e5⟩ := h.mid.back k f hk hp
      exact ⟨q, g, e1, e2, e3, pMet_get e4, e5⟩
    · subst h2
      refine ⟨i, e, rfl, ?_, hj, pMet_get h.at_, rfl⟩
      rw [h1]
      exact (List.getElem?_eq_some_iff.1 h.at_).1
  · have hz : z ∈ e.w ++ [j] := hz
    rcases List.mem_append.1 hz with hz | hz
    · exact hw.1 z hz
    · rw [List.mem_singleton.1 hz]; exact hj
  · show goS N 0 (e.w ++ [j]) = _
    rw [goS_snoc, hw.2.1]; rfl
  · show goS M 0 (e.w ++ [j]) = _
    rw [goS_snoc, hw.2.2]; rfl
  · rcases pMet_of hf with hf | ⟨h1, h2, _⟩ <;> rcases pMet_of hg with hg | ⟨h1', h2', _⟩
    · exact h.mid.mono a b f g hf hg hab
    · rw [h2', hc]
      exact h.mid.top f (List.mem_of_getElem? hf)
    · have := (List.getElem?_eq_some_iff.1 hg).1
      omega
    · omega
  · rcases pMet_of hf with hf | ⟨h1, _, _⟩
    · obtain ⟨g1, g2⟩ := h.mid.done k f hk hf
      refine ⟨g1, fun m hm => ?_⟩
      obtain ⟨g, hg, e1, e2, e3⟩ := g2 m hm
      exact ⟨g, pMet_mem hg, e1, e2, e3⟩
    · have := (List.getElem?_eq_some_iff.1 h.at_).1
      omega
  · rcases pMet_of hf with hf | ⟨h1, h2, h3⟩ <;> rcases pMet_of hg with hg | ⟨h1', h2', h3'⟩
    · exact h.mid.uniq a b f g hf hg ex ey
    · subst h2'
      exact absurd ⟨ex, ey⟩ (h3' f (List.mem_of_getElem? hf))
    · subst h2
      exact absurd ⟨ex.symm, ey.symm⟩ (h3 g (List.mem_of_getElem? hg))
    · omega
  · by_cases hmj : m < j
    · obtain ⟨g, hg, e1, e2, e3⟩ := h.row m hmj
      exact ⟨g, pMet_mem hg, e1, e2, e3⟩
    · have : m = j := by omega
      subst this
      obtain ⟨f, hf, e1, e2, e3⟩ := pMet_in l (entN N M i e m)
      refine ⟨f, hf, e1, e2, ?_⟩
      rcases e3 with e3 | e3
      · have := h.mid.top f e3
        omega
      · rw [e3, hc]; exact Nat.le_refl _
theorem pRow_ok {N A M B i e l} (h : QMid N A M B i l (5 * codeW e.w + 1)) (he : l[i]? = some e) (ha : A.getD e.x false = B.getD e.y false) : ∀ j, j ≤ 5 → QRow N A M B i e j (pRow N M i e j l)
  | 0, _ => ⟨h, he, ha, fun m hm => by omega⟩
  | j + 1, hj => (pRow_ok h he ha j (by omega)).step (by omega)
theorem QMid.weak {N A M B i l c c'} (h : QMid N A M B i l c) (hc : ∀ e ∈ l, codeW e.w < c') : QMid N A M B i l c' := ⟨h.head, h.back, h.word, h.mono, hc, h.done, h.uniq⟩
/-- The next round. -/
theorem QRow.next {N A M B i e l} (h : QRow N A M B i e 5 l) : ∀ e', l[i + 1]? = some e' → QMid N A M B (i + 1) l (5 * codeW e'.w + 1) := fun e' he' => by
  refine ⟨h.mid.head, h.mid.back, h.mid.word, h.mid.mono, fun f hf => ?_, fun k f hk hf => ?_, h.mid.uniq⟩
  · have := h.mid.top f hf
    have := h.mid.mono i (i + 1) e e' h.at_ he' (by omega)
    omega
  · by_cases hki : k < i
    · exact h.mid.done k f hki hf
    · have : k = i := by omega
      subst this
      rw [h.at_] at hf
      injection hf with hf
      subst hf
      exact ⟨h.acc, h.row⟩
theorem QRow.done {N A M B i e l} (h : QRow N A M B i e 5 l) : QMid N A M B (i + 1) l (5 * codeW e.w + 6) := by
  refine ⟨h.mid.head, h.mid.back, h.mid.word, h.mid.mono, h.mid.top, fun k f hk hf => ?_, h.mid.uniq⟩
  by_cases hki : k < i
  · exact h.mid.done k f hki hf
  · have : k = i := by omega
    subst this
    rw [h.at_] at hf
    injection hf with hf
    subst hf
    exact ⟨h.acc, h.row⟩
theorem QMid.start (N A M B) : QMid N A M B 0 [ent0] 1 := by
  refine ⟨rfl, fun k e hk hp => ?_, fun e he => ?_, fun j k e f he hf hjk => ?_, fun e he => ?_, fun k e hk => by omega, fun j k e f he hf _ _ => ?_⟩
  · have := (List.getElem?_eq_some_iff.1 hk).1
    simp at this
    omega
  · rw [List.mem_singleton.1 he]
    exact ⟨fun z hz => by simp [ent0] at hz, rfl, rfl⟩
  · have := (List.getElem?_eq_some_iff.1 hf).1
    simp at this
    omega
  · rw [List.mem_singleton.1 he]
    exact Nat.zero_lt_one
  · have h1 := (List.getElem?_eq_some_iff.1 he).1
    have h2 := (List.getElem?_eq_some_iff.1 hf).1
    simp at h1 h2
    omega
/-- Few pairs may be met. -/
theorem QMid.few {N A M B i l c} (h : QMid N A M B i l c) (hA : OkD N A) (hB : OkD M B) : l.length ≤ A.length * B.length ∧ ∀ e ∈ l, e.x < A.length ∧ e.y < B.length := by
  have hin : ∀ e ∈ l, e.x < A.length ∧ e.y < B.length := fun e he => by
    obtain ⟨h1, h2, h3⟩ := h.word e he
    rw [← h2, ← h3]
    exact ⟨hA.go _ _ h1 hA.l, hB.go _ _ h1 hB.l⟩
  refine ⟨?_, hin⟩
  have hnd : (l.map fun e => e.x * B.length + e.y).Nodup := by
    unfold List.Nodup
    rw [List.pairwise_map, List.pairwise_iff_getElem]
    intro a b ha hb hab e
    have h1 := hin l[a] (List.getElem_mem ..)
    have h2 := hin l[b] (List.getElem_mem ..)
    have e1 : l[a].x = l[b].x := by
      have := congrArg (· / B.length) e
      (try simp only at this)
      rw [Nat.mul_comm l[a].x, Nat.mul_comm l[b].x, Nat.mul_add_div (by omega), Nat.mul_add_div (by omega), Nat.div_eq_of_lt h1.2, Nat.div_eq_of_lt h2.2] at this
      simpa using this
    have e2 : l[a].y = l[b].y := by rw [e1] at e; omega
    have := h.uniq a b _ _ (List.getElem?_eq_getElem ha) (List.getElem?_eq_getElem hb) e1 e2
    omega
  have := List.Nodup.length_le_of_subset hnd (l₂ := List.range (A.length * B.length)) (fun y hy => by
    obtain ⟨e, he, rfl⟩ := List.mem_map.1 hy
    have := hin e he
    rw [List.mem_range]
    have h2 : (e.x + 1) * B.length ≤ A.length * B.length := Nat.mul_le_mul_right _ this.1
    have h3 : (e.x + 1) * B.length = e.x * B.length + B.length := by rw [Nat.add_mul, Nat.one_mul]
    omega)
  rwa [List.length_map, List.length_range] at this
theorem snoc_cases (w : List Nat) : w = [] ∨ ∃ v m, w = v ++ [m] := by
  rcases List.eq_nil_or_concat w with h | ⟨v, m, h⟩
  · exact .inl h
  · exact .inr ⟨v, m, by simpa using h⟩
/-- Each word leads to a pair that is met, by a word of no greater number. -/
theorem QMid.leads {N A M B i l c} (h : QMid N A M B i l c) (hi : 0 < i) : ∀ (n : Nat) (u : List Nat), u.length = n → (∀ z ∈ u, z < 5) → (∀ f ∈ l, codeW f.w ≤ codeW u → ∃ k, k < i ∧ l[k]? = some f) → ∃ k e, k < i ∧ l[k]? = some e ∧ e.x = goS N 0 u ∧ e.y = goS M 0 u ∧ codeW e.w ≤ codeW u
  | n, u, hn, hu, hb => by
    rcases snoc_cases u with rfl | ⟨v, m, rfl⟩
    · exact ⟨0, ent0, hi, h.head, rfl, rfl, Nat.le_refl _⟩
    · match n, hn with
      | 0, hn => simp at hn
      | n + 1, hn =>
        have hm : m < 5 := hu m (by simp)
        have hc := codeW_snoc v m
        obtain ⟨k, e, h1, h2, h3, h4, h5⟩ := QMid.leads h hi n v (by simpa using hn) (fun z hz => hu z (by simp [hz])) (fun f hf hle => hb f hf (by omega))
        obtain ⟨_, h6⟩ := h.done k e h1 h2
        obtain ⟨f, hf, e1, e2, e3⟩ := h6 m hm
        obtain ⟨k', g1, g2⟩ := hb f hf (by omega)
        exact ⟨k', f, g1, g2, by rw [goS_snoc, e1, h3], by rw [goS_snoc, e2, h4], by omega⟩
/-- What is told of two machines: none, their words are the same; a word, the first one that just one takes. -/
def FarOk (N : List Int) (A : List Bool) (M : List Int) (B : List Bool) : Option (List Nat) → Prop
  | none => Eqv N A M B 0 0
  | some w => (∀ z ∈ w, z < 5) ∧ A.getD (goS N 0 w) false ≠ B.getD (goS M 0 w) false ∧ ∀ u : List Nat, (∀ z ∈ u, z < 5) → codeW u < codeW w → A.getD (goS N 0 u) false = B.getD (goS M 0 u) false
theorem QMid.all {N A M B l c} (h : QMid N A M B l.length l c) : Eqv N A M B 0 0 := fun u hu => by
  have hp : 0 < l.length := (List.getElem?_eq_some_iff.1 h.head).1
  obtain ⟨k, e, h1, h2, h3, h4, _⟩ := h.leads hp _ u rfl hu (fun f hf _ => by
    obtain ⟨k, hk, e⟩ := List.getElem_of_mem hf
    exact ⟨k, hk, by rw [List.getElem?_eq_getElem hk, e]⟩)
  rw [← h3, ← h4]
  exact (h.done k e h1 h2).1
theorem QMid.first {N A M B i l c e} (h : QMid N A M B i l c) (he : l[i]? = some e) (hd : A.getD e.x false ≠ B.getD e.y false) : FarOk N A M B (some e.w) := by
  obtain ⟨h1, h2, h3⟩ := h.word e (List.mem_of_getElem? he)
  refine ⟨h1, by rw [h2, h3]; exact hd, fun u hu hlt => ?_⟩
  have hi : 0 < i := by
    by_cases hc : 0 < i
    · exact hc
    · have : i = 0 := by omega
      subst this
      rw [h.head] at he
      injection he with he
      subst he
      exact absurd hlt (Nat.not_lt_zero _)
  obtain ⟨k, f, g1, g2, g3, g4, _⟩ := h.leads hi _ u rfl hu (fun f hf hle => by
    obtain ⟨k, hk, e2⟩ := List.getElem_of_mem hf
    have hk2 : l[k]? = some f := by rw [List.getElem?_eq_getElem hk, e2]
    refine ⟨k, ?_, hk2⟩
    by_cases hki : k < i
    · exact hki
    · by_cases hke : k = i
      · subst hke
        rw [he] at hk2
        injection hk2 with hk2
        subst hk2
        omega
      · have := h.mono i k e f he hk2 (by omega)
        omega)
  rw [← g3, ← g4]
  exact (h.done k f g1 g2).1
theorem pFar_ok {N A M B} (hA : OkD N A) (hB : OkD M B) : ∀ (r i : Nat) (l : List Ent) (c : Nat), QMid N A M B i l c → (∀ e, l[i]? = some e → QMid N A M B i l (5 * codeW e.w + 1)) → i ≤ l.length → A.length * B.length + 1 - i ≤ r → ∃ p, pFar N A M B r i l = some p ∧ FarOk N A M B p
  | 0, i, l, c, h, _, hi, hr => by
    have := (h.few hA hB).1
    omega
  | r + 1, i, l, c, h, hn, hi, hr => by
    rw [pFar]
    cases hx : l[i]? with
    | none =>
      have h1 := List.getElem?_eq_none_iff.1 hx
      have : i = l.length := by omega
      subst this
      exact ⟨none, rfl, h.all⟩
    | some e =>
      have h := hn e hx
      by_cases ha : A.getD e.x false = B.getD e.y false
      · have hro := pRow_ok h hx ha 5 (Nat.le_refl _)
        have hlt := (List.getElem?_eq_some_iff.1 hro.at_).1
        obtain ⟨p, h1, h2⟩ := pFar_ok hA hB r (i + 1) _ _ hro.done hro.next (by omega) (by omega)
        refine ⟨p, ?_, h2⟩
        show (if A.getD e.x false = B.getD e.y false then _ else _) = _
        rw [if_pos ha]
        exact h1
      · refine ⟨some e.w, ?_, h.first hx ha⟩
        show (if A.getD e.x false = B.getD e.y false then _ else _) = _
        rw [if_neg ha]
def farM (N : List Int) (A : List Bool) (M : List Int) (B : List Bool) : Option (List Nat) := (pFar N A M B (A.length * B.length + 2) 0 [ent0]).getD none
theorem far_ok {N A M B} (hA : OkD N A) (hB : OkD M B) : pFar N A M B (A.length * B.length + 2) 0 [ent0] = some (farM N A M B) ∧ FarOk N A M B (farM N A M B) := by
  obtain ⟨p, h1, h2⟩ := pFar_ok hA hB (A.length * B.length + 2) 0 [ent0] 1 (QMid.start N A M B) (fun e he => by
    injection he with he
    subst he
    exact QMid.start N A M B) (by simp) (by omega)
  have e : farM N A M B = p := by rw [farM, h1]; rfl
  rw [e]
  exact ⟨h1, h2⟩
/-- None just where the words are the same. -/
theorem far_none {N A M B} (hA : OkD N A) (hB : OkD M B) : farM N A M B = none ↔ Eqv N A M B 0 0 := by
  have h := (far_ok hA hB).2
  constructor
  · intro e
    rw [e] at h
    exact h
  · intro e
    cases hf : farM N A M B with
    | none => rfl
    | some w =>
      rw [hf] at h
      exact absurd (e w h.1) h.2.1
end Go.Proofs.YtpmjpogcaglphaaDoor.A
/- What all texts of a seat share. -/
namespace Go.Proofs.YtpmjpogcaglphaaDoor.A
open Go
theorem mixed : Tryd.prog.follows .mixedOrders = true := by kernel_rfl
end Go.Proofs.YtpmjpogcaglphaaDoor.A
