/- Machines of one way out of machines of many: sets of states, met in order. No program stands here. -/
import Derived.ChangeVars
import Derived.JoinedOf
import Derived.LaidLaws
import Derived.LaidHandle
import Derived.RowKit
import Derived.Shelf.Strconv.Itoa3
import Derived.Test.YthhfjjnhkifbfaaDoorTie
import Derived.Test.YthhfjjnhkifbfaaDoorCards
import Derived.Test.YthhfjjnhkifbfaaDoorMLDTakes1
import Derived.Test.YthhfjjnhkifbfaaDoorMLDTakes2
import Derived.Test.YthhfjjnhkifbfaaDoorMLDTakes3
import Derived.Test.YthhfjjnhkifbfaaDoorMLDTakes4
import Derived.Test.YthhfjjnhkifbfaaDoorMLDTakes5
import Derived.Test.YthhfjjnhkifbfaaDoorMLDTakes6
import Derived.Test.YthhfjjnhkifbfaaDoorMLDTakes7
import Derived.Test.YthhfjjnhkifbfaaDoorMLDTakes8
import Derived.Test.YthhfjjnhkifbfaaDoorMLDTakes9
set_option linter.unusedVariables false
set_option linter.unusedSimpArgs false
set_option linter.unnecessarySimpa false
namespace Go.Proofs.YthhfjjnhkifbfaaDoor.A
open Go
section
variable {T : Type} [DecidableEq T] (f : T → Nat → T)
def metS (S : List T) (t : T) : List T := if t ∈ S then S else S ++ [t]
/-- What the first m modes lead to: the sets that are met by then, their numbers. -/
def rowS (x : T) : Nat → List T → List T × List Nat
  | 0, S => (S, [])
  | m + 1, S => (metS (rowS x m S).1 (f x m), (rowS x m S).2 ++ [(rowS x m S).1.idxOf (f x m)])
def bfsS (cap : Nat) : Nat → Nat → List T → List Nat → Option (List T × List Nat)
  | 0, _, _, _ => none
  | k + 1, i, S, R => match S[i]? with
    | none => some (S, R)
    | some x => if cap < (rowS f x 5 S).1.length then none else bfsS cap k (i + 1) (rowS f x 5 S).1 (R ++ (rowS f x 5 S).2)
variable {f}
theorem pre_get {α : Type} {l l' : List α} (h : l <+: l') {k : Nat} {y : α} (hk : l[k]? = some y) : l'[k]? = some y := by
  obtain ⟨t, rfl⟩ := h
  rw [List.getElem?_append_left (List.getElem?_eq_some_iff.1 hk).1]
  exact hk
theorem metS_in (S : List T) (t : T) (h : t ∈ S) : metS S t = S := if_pos h
theorem metS_out (S : List T) (t : T) (h : t ∉ S) : metS S t = S ++ [t] := if_neg h
theorem metS_pre (S : List T) (t : T) : S <+: metS S t := by
  unfold metS
  split
  · exact List.prefix_refl _
  · exact List.prefix_append _ _
theorem metS_nodup {S : List T} {t : T} (h : S.Nodup) : (metS S t).Nodup := by
  unfold metS
  split
  · exact h
  · rename_i hn
    rw [List.nodup_append]
    exact ⟨h, by simp, fun a ha b hb => by rw [List.mem_singleton.1 hb]; exact fun e => hn (e ▸ ha)⟩
theorem metS_mem (S : List T) (t : T) : t ∈ metS S t := by
  unfold metS
  split
  · assumption
  · simp
theorem metS_len (S : List T) (t : T) : (metS S t).length = max S.length (S.idxOf t + 1) := by
  unfold metS
  by_cases h : t ∈ S
  · rw [if_pos h]
    have := List.idxOf_lt_length_of_mem h
    omega
  · rw [if_neg h, List.length_append, List.idxOf_eq_length h]
    simp
theorem metS_get (S : List T) (t : T) : (metS S t)[S.idxOf t]? = some t := by
  unfold metS
  by_cases h : t ∈ S
  · rw [if_pos h]
    have := List.idxOf_lt_length_of_mem h
    rw [List.getElem?_eq_getElem this, List.getElem_idxOf this]
  · rw [if_neg h, List.idxOf_eq_length h]
    simp
theorem idxOf_le (S : List T) (t : T) : S.idxOf t ≤ S.length := List.idxOf_le_length
theorem rowS_len (x : T) (m S) : (rowS f x m S).2.length = m := by
  induction m with
  | zero => rfl
  | succ m ih => simp [rowS, ih]
theorem rowS_pre (x : T) (m S) : S <+: (rowS f x m S).1 := by
  induction m with
  | zero => exact List.prefix_refl _
  | succ m ih => exact ih.trans (metS_pre _ _)
theorem rowS_pre' (x : T) (S) {m n : Nat} (h : m ≤ n) : (rowS f x m S).1 <+: (rowS f x n S).1 := by
  induction n with
  | zero => rw [Nat.le_zero.1 h]; exact List.prefix_refl _
  | succ n ih =>
    by_cases e : m = n + 1
    · rw [e]; exact List.prefix_refl _
    · exact (ih (by omega)).trans (metS_pre _ _)
theorem rowS_nodup (x : T) (m) {S} (h : S.Nodup) : (rowS f x m S).1.Nodup := by
  induction m with
  | zero => exact h
  | succ m ih => exact metS_nodup ih
theorem rowS_all (p : T → Prop) (x : T) (hf : ∀ m, p (f x m)) (m) {S : List T} (h : ∀ y ∈ S, p y) : ∀ y ∈ (rowS f x m S).1, p y := by
  induction m with
  | zero => exact h
  | succ m ih =>
    intro y hy
    simp only [rowS, metS] at hy
    split at hy
    · exact ih y hy
    · rcases List.mem_append.1 hy with hy | hy
      · exact ih y hy
      · rw [List.mem_singleton.1 hy]; exact hf m
theorem rowS_take (x : T) (S) {m n : Nat} (h : m ≤ n) : (rowS f x n S).2.take m = (rowS f x m S).2 := by
  induction n with
  | zero => rw [Nat.le_zero.1 h]; rfl
  | succ n ih =>
    by_cases e : m = n + 1
    · rw [e]; exact List.take_of_length_le (by rw [rowS_len]; exact Nat.le_refl _)
    · have hl : (rowS f x n S).2.length = n := rowS_len x n S
      simp only [rowS]
      rw [List.take_append_of_le_length (by omega), ih (by omega)]
/-- Each number of a row is that of the set that the mode leads to. -/
theorem rowS_get (x : T) (S) {m j : Nat} (h : j < m) : ∃ k, (rowS f x m S).2[j]? = some k ∧ k = (rowS f x j S).1.idxOf (f x j) ∧ (rowS f x m S).1[k]? = some (f x j) := by
  have h1 : (rowS f x m S).2[j]? = some ((rowS f x j S).1.idxOf (f x j)) := by
    have := rowS_take (f := f) x S (show j + 1 ≤ m by omega)
    have h2 : ((rowS f x m S).2.take (j + 1))[j]? = (rowS f x m S).2[j]? := by rw [List.getElem?_take]; simp
    rw [← h2, this]
    simp [rowS, rowS_len]
  refine ⟨_, h1, rfl, ?_⟩
  have hp := rowS_pre' (f := f) x S (show j + 1 ≤ m by omega)
  have hg := metS_get (rowS f x j S).1 (f x j)
  exact pre_get hp hg
/-- What has been met so far is one more than the greatest number. -/
theorem rowS_most (x : T) (S : List T) (m : Nat) (hS : 1 ≤ S.length) : (rowS f x m S).1.length = (rowS f x m S).2.foldl max (S.length - 1) + 1 := by
  induction m with
  | zero => simp [rowS]; omega
  | succ m ih =>
    simp only [rowS, List.foldl_append, List.foldl_cons, List.foldl_nil, metS_len]
    omega
end
theorem most_le (l : List Nat) (a : Nat) : a ≤ l.foldl max a := by
  induction l generalizing a with
  | nil => exact Nat.le_refl _
  | cons x l ih => exact Nat.le_trans (Nat.le_max_left _ _) (ih _)
theorem most_mem {l : List Nat} {a q k : Nat} (h : l[q]? = some k) : k ≤ l.foldl max a := by
  induction l generalizing a q with
  | nil => cases h
  | cons x l ih =>
    cases q with
    | zero =>
      injection h with h
      subst h
      exact Nat.le_trans (Nat.le_max_right _ _) (most_le _ _)
    | succ q => exact ih (q := q) (by simpa using h)
section
variable {T : Type}
/-- Some rounds of the walk over what was met. -/
structure MidS (f : T → Nat → T) (t0 : T) (i : Nat) (S : List T) (R : List Nat) : Prop where
  nodup : S.Nodup
  head : S[0]? = some t0
  le : i ≤ S.length
  len : R.length = 5 * i
  leads : ∀ j m, j < i → m < 5 → ∃ x k, S[j]? = some x ∧ R[5 * j + m]? = some k ∧ S[k]? = some (f x m)
  most : S.length = R.foldl max 0 + 1
  met : ∀ q k, R[q]? = some k → k ≤ (R.take q).foldl max 0 + 1
  seen : ∀ j, j < i → j ≤ (R.take (5 * j)).foldl max 0
variable {f : T → Nat → T}
theorem MidS.start (t0 : T) : MidS f t0 0 [t0] [] where
  nodup := by simp
  head := rfl
  le := by simp
  len := rfl
  leads := fun j m h => absurd h (by omega)
  most := rfl
  met := fun q k h => by cases h
  seen := fun j h => absurd h (by omega)
end
section
variable {T : Type} [DecidableEq T]
variable {f : T → Nat → T}
theorem MidS.next {t0 : T} {i : Nat} {S : List T} {R : List Nat} (h : MidS f t0 i S R) {x : T} (hx : S[i]? = some x) : MidS f t0 (i + 1) (rowS f x 5 S).1 (R ++ (rowS f x 5 S).2) := by
  have hpre := rowS_pre (f := f) x 5 S
  have hlt : i < S.length := by
    by_cases hc : i < S.length
    · exact hc
    · rw [List.getElem?_eq_none (by omega)] at hx; cases hx
  have hpl := hpre.length_le
  have hrl : (rowS f x 5 S).2.length = 5 := rowS_len x 5 S
  have hm : S.length - 1 = R.foldl max 0 := by have := h.most; omega
  have keep : ∀ {k : Nat} {y : T}, S[k]? = some y → (rowS f x 5 S).1[k]? = some y := fun hk => pre_get hpre hk
  refine ⟨rowS_nodup x 5 h.nodup, keep h.head, by omega, by rw [List.length_append, h.len, hrl]; omega, fun j m hj hm5 => ?_, ?_, fun q k hq => ?_, fun j hj => ?_⟩
  · by_cases e : j < i
    · obtain ⟨y, k, h1, h2, h3⟩ := h.leads j m e hm5
      exact ⟨y, k, keep h1, by rw [List.getElem?_append_left (by rw [h.len]; omega)]; exact h2, keep h3⟩
    · have : j = i := by omega
      subst this
      obtain ⟨k, h1, _, h2⟩ := rowS_get (f := f) x S hm5
      exact ⟨x, k, keep hx, by rw [List.getElem?_append_right (by rw [h.len]; omega), h.len]; simpa using h1, h2⟩
  · have := rowS_most (f := f) x S 5 (by omega)
    rw [this, hm, List.foldl_append]
  · by_cases e : q < R.length
    · rw [List.getElem?_append_left e] at hq
      rw [List.take_append_of_le_length (by omega)]
      exact h.met q k hq
    · rw [List.getElem?_append_right (by omega)] at hq
      obtain ⟨j, rfl⟩ : ∃ j, q = R.length + j := ⟨q - R.length, by omega⟩
      rw [Nat.add_sub_cancel_left] at hq
      have hj5 : j < 5 := by
        by_cases hc : j < 5
        · exact hc
        · rw [List.getElem?_eq_none (by omega)] at hq; cases hq
      obtain ⟨k', h1, h2, _⟩ := rowS_get (f := f) x S hj5
      rw [h1] at hq
      injection hq with hq
      subst hq
      rw [List.take_length_add_append, rowS_take x S (by omega : j ≤ 5), List.foldl_append, ← hm]
      have := rowS_most (f := f) x S j (by omega)
      have := idxOf_le (rowS f x j S).1 (f x j)
      omega
  · by_cases e : j < i
    · rw [List.take_append_of_le_length (by rw [h.len]; omega)]
      exact h.seen j e
    · have : j = i := by omega
      subst this
      rw [← h.len, List.take_left' rfl]
      omega
theorem bfsS_succ (cap k i : Nat) (S : List T) (R : List Nat) : bfsS f cap (k + 1) i S R = match S[i]? with
    | none => some (S, R)
    | some x => if cap < (rowS f x 5 S).1.length then none else bfsS f cap k (i + 1) (rowS f x 5 S).1 (R ++ (rowS f x 5 S).2) := rfl
theorem bfsS_mid {t0 : T} {cap : Nat} : ∀ {k i : Nat} {S : List T} {R : List Nat} {S' R'}, MidS f t0 i S R → bfsS f cap k i S R = some (S', R') → MidS f t0 S'.length S' R'
  | 0, _, _, _, _, _, _, h => by cases h
  | k + 1, i, S, R, S', R', hm, h => by
    rw [bfsS_succ] at h
    cases hx : S[i]? with
    | none =>
      rw [hx] at h
      injection h with h
      injection h with h1 h2
      subst h1 h2
      have hle := hm.le
      have hge := List.getElem?_eq_none_iff.1 hx
      have : i = S.length := by omega
      rw [← this]
      exact hm
    | some x =>
      rw [hx] at h
      dsimp only at h
      split at h
      · cases h
      · exact bfsS_mid (hm.next hx) h
theorem bfsS_cap {cap : Nat} : ∀ {k i : Nat} {S : List T} {R : List Nat} {S' R'}, S.length ≤ cap → bfsS f cap k i S R = some (S', R') →
    S.length ≤ S'.length ∧ S'.length ≤ cap ∧ ∀ c, (S'.length ≤ c → bfsS f c k i S R = some (S', R')) ∧ (c < S'.length → S.length ≤ c → bfsS f c k i S R = none)
  | 0, _, _, _, _, _, _, h => by cases h
  | k + 1, i, S, R, S', R', hS, h => by
    rw [bfsS_succ] at h
    cases hx : S[i]? with
    | none =>
      rw [hx] at h
      injection h with h
      injection h with h1 h2
      subst h1 h2
      refine ⟨Nat.le_refl _, hS, fun c => ⟨fun _ => ?_, fun h1 h2 => absurd h1 (by omega)⟩⟩
      rw [bfsS_succ, hx]
    | some x =>
      rw [hx] at h
      dsimp only at h
      split at h
      · cases h
      · rename_i hc
        have hp := (rowS_pre (f := f) x 5 S).length_le
        obtain ⟨h1, h2, h3⟩ := bfsS_cap (by omega) h
        refine ⟨by omega, h2, fun c => ⟨fun hh => ?_, fun hh hh2 => ?_⟩⟩
        · rw [bfsS_succ, hx]
          dsimp only
          rw [if_neg (by omega)]
          exact (h3 c).1 hh
        · rw [bfsS_succ, hx]
          dsimp only
          split
          · rfl
          · exact (h3 c).2 hh (by omega)
/-- Among few sets none is too much. -/
theorem bfsS_some {cap : Nat} (p : T → Prop) (hf : ∀ x m, p x → p (f x m)) (hp : ∀ S : List T, S.Nodup → (∀ y ∈ S, p y) → S.length ≤ cap) : ∀ {k i : Nat} {S : List T} {R : List Nat}, S.Nodup → (∀ y ∈ S, p y) → i ≤ S.length → cap < k + i → ∃ S' R', bfsS f cap k i S R = some (S', R') ∧ ∀ y ∈ S', p y
  | 0, i, S, R, hn, ha, hi, hk => by
    have := hp S hn ha
    omega
  | k + 1, i, S, R, hn, ha, hi, hk => by
    rw [bfsS_succ]
    cases hx : S[i]? with
    | none => exact ⟨S, R, rfl, ha⟩
    | some x =>
      dsimp only
      have hxp := ha x (List.mem_of_getElem? hx)
      have hn' := rowS_nodup (f := f) x 5 hn
      have ha' := rowS_all (f := f) p x (fun m => hf x m hxp) 5 ha
      rw [if_neg (by have := hp _ hn' ha'; omega)]
      have hlt := (List.getElem?_eq_some_iff.1 hx).1
      have hpl := (rowS_pre (f := f) x 5 S).length_le
      exact bfsS_some p hf hp hn' ha' (by omega) (by omega)
theorem bfsS_all {cap : Nat} (p : T → Prop) (hf : ∀ x m, p x → p (f x m)) : ∀ {k i : Nat} {S : List T} {R : List Nat} {S' R'}, (∀ y ∈ S, p y) → bfsS f cap k i S R = some (S', R') → ∀ y ∈ S', p y
  | 0, _, _, _, _, _, _, h => by cases h
  | k + 1, i, S, R, S', R', ha, h => by
    rw [bfsS_succ] at h
    cases hx : S[i]? with
    | none =>
      rw [hx] at h
      injection h with h
      injection h with h1 h2
      subst h1
      exact ha
    | some x =>
      rw [hx] at h
      dsimp only at h
      split at h
      · cases h
      · exact bfsS_all p hf (rowS_all (f := f) p x (fun m => hf x m (ha x (List.mem_of_getElem? hx))) 5 ha) h
end
theorem bools_le : ∀ (n : Nat) (S : List (List Bool)), S.Nodup → (∀ b ∈ S, b.length = n) → S.length ≤ 2 ^ n
  | 0, S, hn, h => by
    match S, hn, h with
    | [], _, _ => simp
    | [_], _, _ => simp
    | a :: b :: l, hn, h =>
      have e1 : a = [] := List.length_eq_zero_iff.1 (h a (by simp))
      have e2 : b = [] := List.length_eq_zero_iff.1 (h b (by simp))
      subst e1 e2
      simp at hn
  | n + 1, S, hn, h => by
    have hc := List.length_eq_countP_add_countP (fun b : List Bool => b.headD false) (l := S)
    have key : ∀ (q : List Bool → Bool) (v : Bool), (∀ b, q b = true → b.headD false = v) → S.countP q ≤ 2 ^ n := fun q v hq => by
      rw [List.countP_eq_length_filter]
      have := bools_le n ((S.filter q).map List.tail) (by
        unfold List.Nodup
        rw [List.pairwise_map]
        refine List.Pairwise.imp_of_mem ?_ (hn.filter q)
        intro a b ha hb hab he
        have ha1 := List.mem_filter.1 ha
        have hb1 := List.mem_filter.1 hb
        have la := h a ha1.1
        have lb := h b hb1.1
        have va := hq a ha1.2
        have vb := hq b hb1.2
        match a, b, la, lb, va, vb, he with
        | x :: a, y :: b, _, _, va, vb, he =>
          simp only [List.headD_cons, List.tail_cons] at va vb he
          exact hab (by rw [va, vb, he])) (fun b hb => by
        obtain ⟨c, hc, rfl⟩ := List.mem_map.1 hb
        rw [List.length_tail, h c (List.mem_filter.1 hc).1]
        rfl)
      simpa using this
    have h1 := key (fun b => b.headD false) true (fun b hb => hb)
    have h2 := key (fun b => decide (¬ b.headD false = true)) false (fun b hb => by simpa using hb)
    rw [Nat.pow_succ]
    omega
end Go.Proofs.YthhfjjnhkifbfaaDoor.A
/- Machines of one way out of machines of many: names of sets. No program stands here but in what is imported. -/
namespace Go.Proofs.YthhfjjnhkifbfaaDoor.A
open Go
/-- A number's digits (below a thousand). -/
def itoaS (n : Nat) : List UInt8 := if n < 10 then [UInt8.ofNat (48 + n)] else if n < 100 then [UInt8.ofNat (48 + n / 10), UInt8.ofNat (48 + n % 10)] else [UInt8.ofNat (48 + n / 100), UInt8.ofNat (48 + n / 10 % 10), UInt8.ofNat (48 + n % 10)]
def deI (l : List UInt8) : Nat := l.foldl (fun a c => 10 * a + (c.toNat - 48)) 0
theorem deI_all : ((List.range 1000).all fun n => decide (deI (itoaS n) = n)) = true := by decide +kernel
theorem no32_all : ((List.range 1000).all fun n => decide ((32 : UInt8) ∉ itoaS n)) = true := by decide +kernel
theorem deI_itoa {n : Nat} (h : n < 1000) : deI (itoaS n) = n := by
  have := List.all_eq_true.1 deI_all n (List.mem_range.2 h)
  exact of_decide_eq_true this
theorem no32 {n : Nat} (h : n < 1000) : (32 : UInt8) ∉ itoaS n := by
  have := List.all_eq_true.1 no32_all n (List.mem_range.2 h)
  exact of_decide_eq_true this
def nameS (l : List Int) : List UInt8 := l.flatMap fun x => itoaS x.toNat ++ [32]
theorem nameS_snoc (l : List Int) (x : Int) : nameS (l ++ [x]) = nameS l ++ itoaS x.toNat ++ [32] := by simp [nameS]
theorem split32 {x : UInt8} : ∀ {a b u v : List UInt8}, x ∉ a → x ∉ b → a ++ x :: u = b ++ x :: v → a = b ∧ u = v
  | [], [], _, _, _, _, h => ⟨rfl, by simpa using h⟩
  | [], c :: b, _, _, _, hb, h => by
    simp only [List.nil_append, List.cons_append, List.cons.injEq] at h
    exact absurd (h.1 ▸ List.mem_cons_self ..) hb
  | c :: a, [], _, _, ha, _, h => by
    simp only [List.nil_append, List.cons_append, List.cons.injEq] at h
    exact absurd (h.1 ▸ List.mem_cons_self ..) ha
  | c :: a, d :: b, u, v, ha, hb, h => by
    simp only [List.cons_append, List.cons.injEq] at h
    obtain ⟨h1, h2⟩ := split32 (fun hm => ha (List.mem_cons_of_mem _ hm)) (fun hm => hb (List.mem_cons_of_mem _ hm)) h.2
    exact ⟨by rw [h.1, h1], h2⟩
theorem nameS_inj : ∀ {l l' : List Int}, (∀ x ∈ l, 0 ≤ x ∧ x < 1000) → (∀ x ∈ l', 0 ≤ x ∧ x < 1000) → nameS l = nameS l' → l = l'
  | [], [], _, _, _ => rfl
  | [], y :: l', _, _, h => by simp [nameS] at h
  | x :: l, [], _, _, h => by simp [nameS] at h
  | x :: l, y :: l', h1, h2, h => by
    have hx := h1 x (List.mem_cons_self ..)
    have hy := h2 y (List.mem_cons_self ..)
    have e : itoaS x.toNat ++ 32 :: nameS l = itoaS y.toNat ++ 32 :: nameS l' := by simpa [nameS] using h
    obtain ⟨e1, e2⟩ := split32 (x := 32) (no32 (by omega)) (no32 (by omega)) e
    have e3 : x.toNat = y.toNat := by rw [← deI_itoa (n := x.toNat) (by omega), e1, deI_itoa (by omega)]
    rw [nameS_inj (fun z hz => h1 z (List.mem_cons_of_mem _ hz)) (fun z hz => h2 z (List.mem_cons_of_mem _ hz)) e2, show x = y by omega]
theorem idxs_inj {a b : List Bool} (hl : a.length = b.length) (h : idxs a = idxs b) : a = b := by
  rw [← marks_idxs a, ← marks_idxs b, hl, h]
def nm (b : List Bool) : AV := .str (nameS (idxs b))
def knownFrom (n : Nat) (S : List (List Bool)) : List (AV × AV) := (S.zipIdx n).map fun p => (nm p.1, .int .i64 p.2)
abbrev knownS (S : List (List Bool)) : List (AV × AV) := knownFrom 0 S
theorem knownFrom_snoc (n S b) : knownFrom n (S ++ [b]) = knownFrom n S ++ [(nm b, .int .i64 ((n + S.length : Nat) : Int))] := by
  unfold knownFrom
  rw [List.zipIdx_append]
  simp
theorem eqKey_nm {N : Nat} (hN : N ≤ 1000) {a b : List Bool} (ha : a.length = N) (hb : b.length = N) : eqKey (nm a) (nm b) = some (decide (a = b)) := by
  have : (nameS (idxs a) == nameS (idxs b)) = decide (a = b) := by
    rw [Bool.eq_iff_iff, beq_iff_eq, decide_eq_true_iff]
    refine ⟨fun h => idxs_inj (by omega) (nameS_inj (fun x hx => ?_) (fun x hx => ?_) h), fun h => by rw [h]⟩
    · have := idxs_in hx; omega
    · have := idxs_in hx; omega
  unfold nm eqKey
  exact congrArg some this
theorem findA_known {N : Nat} (hN : N ≤ 1000) {t : List Bool} (ht : t.length = N) : ∀ {S : List (List Bool)} {n : Nat}, (∀ b ∈ S, b.length = N) → findA (nm t) (knownFrom n S) = some (if t ∈ S then some (.int .i64 ((n + S.idxOf t : Nat) : Int)) else none)
  | [], n, _ => rfl
  | b :: S, n, h => by
    have ih := findA_known hN ht (S := S) (n := n + 1) (fun c hc => h c (List.mem_cons_of_mem _ hc))
    have he := eqKey_nm hN ht (h b (List.mem_cons_self ..))
    have hcons : knownFrom n (b :: S) = (nm b, .int .i64 (n : Int)) :: knownFrom (n + 1) S := by simp [knownFrom, List.zipIdx_cons]
    rw [hcons]
    simp only [findA, he, ih]
    by_cases hb : t = b
    · subst hb
      rw [decide_eq_true (rfl : t = t), if_pos (List.mem_cons_self ..), List.idxOf_cons_self]
      rfl
    · have hb' : ¬ b = t := fun e => hb e.symm
      have hi : (b :: S).idxOf t = S.idxOf t + 1 := by
        rw [List.idxOf_cons, beq_false_of_ne hb']
        rfl
      simp only [hb, decide_false, hi, List.mem_cons, false_or]
      rw [show n + 1 + S.idxOf t = n + (S.idxOf t + 1) by omega]
theorem putA_known {N : Nat} (hN : N ≤ 1000) {t : List Bool} (ht : t.length = N) {S : List (List Bool)} (h : ∀ b ∈ S, b.length = N) (hn : t ∉ S) : putA (nm t) (.int .i64 (S.length : Int)) (knownS S) = knownS (metS S t) := by
  have hf := findA_known hN ht (n := 0) h
  rw [if_neg hn] at hf
  rw [(findA_none hf).2, metS_out S t hn]
  unfold knownS
  rw [knownFrom_snoc, Nat.zero_add]
end Go.Proofs.YthhfjjnhkifbfaaDoor.A
/- A, part 33: a law's row that lists variables, from its contract. -/
namespace Go.Proofs.YthhfjjnhkifbfaaDoor.A
open Go Go.ChangeShapes
theorem laidMetH_plain {P : Program} {L : List (String × DataW Unit)} (h : (L.filter fun x => x.2.handleName?.isSome) = []) (w : World) : laidMetH P L w = laidMet P L w := by
  unfold laidMetH
  rw [h]
theorem laidVars_at {P : Program} {w : World} {n : String} {d : DataW Unit} : ∀ {L : List (String × DataW Unit)} {ps : List MemPlace}, DataW.LaidVars P w L ps → (n, d) ∈ L →
    ∃ g t cs fuel p, P.globalNamed n = some g ∧ (P.globals[g]?).map (·.type) = some t ∧ w.var? P n = some cs ∧ DataW.trod (fun _ => ()) P w 0 (fun _ => true) false fuel t cs.toList = some (d, p)
  | [], _, _, h => by cases h
  | (m, e) :: L, ps, hv, h => by
    obtain ⟨g, t, cs, fuel, p, q, h1, h2, h3, h4, h5, _⟩ := hv
    rcases List.mem_cons.1 h with e1 | h
    · injection e1 with e1 e2
      subst e1 e2
      exact ⟨g, t, cs, fuel, p, h1, h2, h3, h4⟩
    · exact laidVars_at h5 h
theorem var_heap {P : Program} {w : World} {n : String} {g : Nat} {cs : Array Value} (hg : P.globalNamed n = some g) (h : w.var? P n = some cs) : ∃ t m, w.heap[g]? = some (.cells cs t m) := by
  unfold World.var? at h
  rw [hg] at h
  simp only [Option.bind_some] at h
  split at h
  · rename_i e
    injection h with h
    subst h
    exact ⟨_, _, e⟩
  · cases h
theorem law_laid {H : Type} {enc : TypeId × Value → H} {as_ : Assume} {C : Checked} {os : Os} {f : FuncId} {fn : Func} {s : ChangeSpec} {conds : List PathCond} {apart fresh handsOn again : Bool} {L : List (String × DataW Unit)} (hnoh : (L.filter fun x => x.2.handleName?.isSome) = [])
    (own : ownKnob C.prog.godebug = none) (started : os.Started) (noInit : C.prog.inits.idxOf? f = none) (hfn : C.prog.funcs[f]? = some fn)
    (witness : ∃ (w : World) (tape : Tape) (i : Input), w.os = os ∧ (w.forCall tape i).Shaped C.prog ∧ i.vars = [] ∧ Input.okWide C.prog (w.forCall tape i) .any w.heap.size f i ∧
      ((s.pre enc C.prog fn conds apart (w.forCall tape i).memory i.args ∧ laidMetH C.prog L (w.forCall tape i).memory) ∧ sizedMet enc C.prog fn (OpenSpec.ofChange s) apart (w.forCall tape i).memory i.args) ∧ as_.holds C.prog (lone (Frame.enter C.prog f i.args .normal) [] (w.forCall tape i)))
    (hl : laidOutB C.prog = true) {ks : List TypeId} (hk : dataTypes C.prog ks = true) (hks : fn.params.toList.all (fun t => ks.contains t && C.prog.readableRec t && decide (t < C.prog.types.size)) = true)
    {tb : TypeId} (hr : fn.resultTypes = #[tb]) (htb : C.prog.underlying tb = some .bool) (hv : s.vars = [])
    (hspec : ∀ ds : List (DataW H), ds.length = fn.params.toList.length → (s.fn H ds).results = [.lit (.bool true)] ∧ (s.fn H ds).args = ds ∧ (s.fn H ds).vars = [])
    (hgl : ∀ W, laidMetH C.prog L W → Gl (Old W) W) (hok : ∀ xs, ArgsOf C.prog fn.params.toList xs → Ok C.prog f xs (.bool true)) :
    ReturnsInHanded as_ C os f .any (fun w args => (s.pre enc C.prog fn conds apart w args ∧ laidMetH C.prog L w) ∧ sizedMet enc C.prog fn (OpenSpec.ofChange s) apart w args) (s.post enc C.prog fn apart fresh handsOn again) := by
  have hks' : ∀ t ∈ fn.params.toList, t ∈ ks ∧ C.prog.readableRec t = true ∧ t < C.prog.types.size := fun t ht => by
    have := List.all_eq_true.1 hks t ht
    simp only [Bool.and_eq_true, decide_eq_true_eq, List.contains_iff_mem] at this
    exact ⟨this.1.1, this.1.2, this.2⟩
  refine returnsInHanded_of_change_and (X := fun w _ => laidMetH C.prog L w) (fun w w' _ hh h => by rw [laidMetH_plain hnoh] at h ⊢; exact laidMet.of_heap hh h) own started noInit hfn witness ?_
  intro W base args ds gs before hval hW _ _ hmet _
  have hWc := hW
  obtain ⟨p, q, hA, hV, rfl, hfz, hnd⟩ := hW
  have hlen := trods_length hA
  have hgs : gs = [] := by
    rw [hv] at hV
    exact (trodVars_none hV).1
  subst hgs
  obtain ⟨xs, hx1, hx2⟩ := args_shape hl hk (fun t ht => (hks' t ht).1) (fun j t v ht hv' => hval j t v (by simpa using ht) (by simpa using hv')) hA
  obtain ⟨_, hc⟩ := hok xs hx1
  have := hc (Old W) W args.toList hx2 (fun b hb => hb) (hgl W hmet)
  refine Calls.mono (by simpa using this) ?_
  rintro e W' ⟨v, S', rfl, hb, hpr, _, _⟩
  cases hpr
  refine ⟨_, rfl, law_post hl hWc hv hr htb ?_ (fun t ht => (hks' t ht).2) hb⟩
  rw [List.append_nil]
  exact hspec ds hlen
/-! ### a world whose listed variables are laid -/
def litV : Lit → Value
  | .int k n => .int k n
  | .bool b => .bool b
  | .string s => .string ⟨s.toArray⟩
  | _ => default
def laidCells : DataW Unit → Array Value
  | .agg l => (l.map fun x => match x with | .lit v => litV v | _ => default).toArray
  | .lit v => #[litV v]
  | _ => #[]
/-- Variable k holds these cells. -/
def layW (w : World) (k : Nat) (cells : Array Value) : World := { w with heap := w.heap.modify k fun
  | .cells _ t frozen => .cells cells t frozen
  | o => o }
end Go.Proofs.YthhfjjnhkifbfaaDoor.A
/- Machines of one way out of machines of many: rows of steps by where they begin; what Subsets keeps in memory. -/
namespace Go.Proofs.YthhfjjnhkifbfaaDoor.A
open Go
set_option maxRecDepth 20000
abbrev St3 := Int × Int × Int
def leadAdd (rows : List (List St3)) (x : St3) : List (List St3) := rows.set x.1.toNat (rows.getD x.1.toNat [] ++ [x])
def leadsOf (N : Nat) (ss : List St3) : List (List St3) := ss.foldl leadAdd (List.replicate N [])
theorem leadsOf_snoc (N ss x) : leadsOf N (ss ++ [x]) = leadAdd (leadsOf N ss) x := by simp [leadsOf]
theorem leadFold_length (l : List St3) (rows : List (List St3)) : (l.foldl leadAdd rows).length = rows.length := by
  induction l generalizing rows with
  | nil => rfl
  | cons f l ih => rw [List.foldl_cons, ih]; simp [leadAdd]
theorem leadsOf_length (N ss) : (leadsOf N ss).length = N := by rw [leadsOf, leadFold_length]; simp
theorem leadFold_mem {N : Nat} {j : Nat} (hj : j < N) (x : St3) : ∀ (l : List St3) (rows : List (List St3)), rows.length = N → (∀ p ∈ l, 0 ≤ p.1 ∧ p.1 < (N : Int)) → (x ∈ (l.foldl leadAdd rows).getD j [] ↔ x ∈ rows.getD j [] ∨ x ∈ l ∧ x.1 = (j : Int))
  | [], rows, _, _ => by simp
  | f :: l, rows, hr, hin => by
    have hf := hin f (List.mem_cons_self ..)
    rw [List.foldl_cons, leadFold_mem hj x l (leadAdd rows f) (by simp [leadAdd, hr]) (fun p hp => hin p (List.mem_cons_of_mem _ hp))]
    unfold leadAdd
    rw [getD_set _ _ _ _ _ (by omega)]
    by_cases e : f.1.toNat = j
    · rw [if_pos e, List.mem_append, List.mem_singleton, e]
      constructor
      · rintro ((h | rfl) | h)
        · exact .inl h
        · exact .inr ⟨List.mem_cons_self .., by omega⟩
        · exact .inr ⟨List.mem_cons_of_mem _ h.1, h.2⟩
      · rintro (h | ⟨h, h2⟩)
        · exact .inl (.inl h)
        · rcases List.mem_cons.1 h with rfl | h
          · exact .inl (.inr rfl)
          · exact .inr ⟨h, h2⟩
    · rw [if_neg e]
      constructor
      · rintro (h | h)
        · exact .inl h
        · exact .inr ⟨List.mem_cons_of_mem _ h.1, h.2⟩
      · rintro (h | ⟨h, h2⟩)
        · exact .inl h
        · rcases List.mem_cons.1 h with rfl | h
          · omega
          · exact .inr ⟨h, h2⟩
theorem leadsOf_mem {N : Nat} {ss : List St3} (hin : ∀ p ∈ ss, 0 ≤ p.1 ∧ p.1 < (N : Int)) {j : Nat} (hj : j < N) (x : St3) : x ∈ (leadsOf N ss).getD j [] ↔ x ∈ ss ∧ x.1 = (j : Int) := by
  rw [leadsOf, leadFold_mem hj x ss _ (by simp) hin]
  simp [List.getD, List.getElem?_replicate, hj]
theorem leadFold_le (l : List St3) : ∀ (rows : List (List St3)) (n : Nat), (∀ j, (rows.getD j []).length ≤ n) → ∀ j, ((l.foldl leadAdd rows).getD j []).length ≤ n + l.length := by
  induction l with
  | nil => intro rows n h j; simpa using h j
  | cons f l ih =>
    intro rows n h j
    have := ih (leadAdd rows f) (n + 1) (fun j => by
      unfold leadAdd
      by_cases hf : f.1.toNat < rows.length
      · rw [getD_set _ _ _ _ _ hf]
        split
        · have := h f.1.toNat; rw [List.length_append, List.length_singleton]; omega
        · have := h j; omega
      · rw [List.set_eq_of_length_le (by omega)]; have := h j; omega) j
    simp only [List.foldl_cons, List.length_cons]; omega
theorem leadsOf_le (N ss j) : ((leadsOf N ss).getD j []).length ≤ ss.length := by
  have := leadFold_le ss (List.replicate N []) 0 (fun j => by simp [List.getD, List.getElem?_replicate]; split <;> simp) j
  simpa [leadsOf] using this
/-- Where a mode leads, set by set. -/
def hits (m : Int) (l : List St3) : List Int := (l.filter fun x => hasMode x.2.2 m).map (·.2.1)
def byL (lr : List (List St3)) (m : Int) (l : List Int) : List Int := l.flatMap fun s => hits m (lr.getD s.toNat [])
theorem hits_snoc (m l x) : hits m (l ++ [x]) = hits m l ++ (if hasMode x.2.2 m then [x.2.1] else []) := by
  unfold hits
  rw [List.filter_append]
  by_cases h : hasMode x.2.2 m = true <;> simp [h]
theorem hits_le (m l) : (hits m l).length ≤ l.length := by
  unfold hits
  rw [List.length_map]
  exact List.length_filter_le ..
theorem byL_snoc (lr m l s) : byL lr m (l ++ [s]) = byL lr m l ++ hits m (lr.getD s.toNat []) := by simp [byL]
theorem byL_le {lr : List (List St3)} {M : Nat} (h : ∀ j, (lr.getD j []).length ≤ M) (m l) : (byL lr m l).length ≤ l.length * M := by
  induction l with
  | nil => simp [byL]
  | cons s l ih =>
    have h1 := hits_le m (lr.getD s.toNat [])
    have h2 := h s.toNat
    have : byL lr m (s :: l) = hits m (lr.getD s.toNat []) ++ byL lr m l := rfl
    rw [this, List.length_append, List.length_cons, Nat.succ_mul]
    omega
theorem byL_mem {N : Nat} {ss : List St3} (hin : ∀ p ∈ ss, 0 ≤ p.1 ∧ p.1 < (N : Int)) {b : List Bool} (hb : b.length = N) {m : Int} (hm : 0 ≤ m ∧ m < 5) (s : Int) : s ∈ byL (leadsOf N ss) m (idxs b) ↔ s ∈ nextOf ss b m := by
  unfold byL hits nextOf
  simp only [List.mem_flatMap, List.mem_map, List.mem_filter]
  have e0 : ∀ x : St3, leads b m x = (b.getD x.1.toNat false && hasMode x.2.2 m) := fun x => by
    unfold leads
    rw [decide_eq_true hm.1, decide_eq_true hm.2]
    rfl
  constructor
  · rintro ⟨q, hq, x, ⟨hx, hh⟩, rfl⟩
    obtain ⟨j, rfl, hj⟩ := mem_idxs.1 hq
    have hjN : j < N := by
      have := idxs_in hq
      omega
    rw [show ((j : Int)).toNat = j by omega, leadsOf_mem hin hjN] at hx
    refine ⟨x, ⟨hx.1, ?_⟩, rfl⟩
    rw [e0, hh, hx.2, show ((j : Int)).toNat = j by omega, hj]
    rfl
  · rintro ⟨x, ⟨hx, hl⟩, rfl⟩
    rw [e0, Bool.and_eq_true] at hl
    have hx1 := hin x hx
    refine ⟨x.1, mem_idxs.2 ⟨x.1.toNat, by omega, hl.1⟩, x, ⟨?_, hl.2⟩, rfl⟩
    exact (leadsOf_mem hin (j := x.1.toNat) (by omega) x).2 ⟨hx, by omega⟩
theorem byL_close {N : Nat} {rows : List (List Int)} {ss : List St3} (hin : ∀ p ∈ ss, 0 ≤ p.1 ∧ p.1 < (N : Int)) {b : List Bool} (hb : b.length = N) {m : Int} (hm : 0 ≤ m ∧ m < 5) : closeB N rows (byL (leadsOf N ss) m (idxs b)) = stepB N rows ss b m :=
  closeB_congr fun s _ => byL_mem hin hb hm s
/-! ### rows of steps, each of its own make -/
def NS (D : Nat) (o : Ob) (nx : Nat) (cs : List AV) (rows : List (List St3)) : Prop :=
  cs.length = rows.length ∧ (∀ j, j < rows.length → HS 69 3 D o nx (cs.getD j .nil) (rows.getD j []).length (cS (rows.getD j []))) ∧
    ∀ j j' i g n g' n', j < j' → cs.getD j .nil = .ref (i, D) g 0 n → cs.getD j' .nil ≠ .ref (i, D) g' 0 n'
theorem NS.keep {D o nx cs rows} (h : NS D o nx cs rows) {o' : Ob} {nx' : Nat} (ho : ∀ i, i < nx → o' (i, D) = o (i, D)) (hn : nx ≤ nx') : NS D o' nx' cs rows :=
  ⟨h.1, fun j hj => (h.2.1 j hj).keep ho hn, h.2.2⟩
theorem NS.start (D o nx) (n : Nat) : NS D o nx (List.replicate n .nil) (List.replicate n []) := by
  refine ⟨by simp, fun j hj => ?_, fun j j' i g m g' m' hj h => ?_⟩
  · have hj : j < n := by simpa using hj
    have e1 : (List.replicate n AV.nil).getD j .nil = .nil := by simp [List.getD, List.getElem?_replicate, hj]
    have e2 : (List.replicate n ([] : List St3)).getD j [] = [] := by simp [List.getD, List.getElem?_replicate, hj]
    rw [e1, e2]
    exact .inl ⟨rfl, rfl, rfl⟩
  · by_cases hj : j < n
    · have e1 : (List.replicate n AV.nil).getD j .nil = .nil := by simp [List.getD, List.getElem?_replicate, hj]
      rw [e1] at h; cases h
    · have e1 : (List.replicate n AV.nil).getD j .nil = .nil := by simp [List.getD, List.getElem?_replicate, hj]
      rw [e1] at h; cases h
theorem NS.set {D o nx cs rows} (h : NS D o nx cs rows) {j : Nat} (hj : j < rows.length) {o' : Ob} {nx' : Nat} {i : Nat} {g : Tag} {l : List St3} {n : Nat} (hl : n = l.length) (hn : nx ≤ nx') (hi : i < nx')
    (hnew : cs.getD j .nil = .nil ∧ nx ≤ i ∨ ∃ g0 n0, cs.getD j .nil = .ref (i, D) g0 0 n0) (ho : ∀ i', i' < nx → i' ≠ i → o' (i', D) = o (i', D)) (hrow : o' (i, D) = some (.row ⟨69, 3, g, false, true, cS l⟩)) :
    NS D o' nx' (cs.set j (.ref (i, D) g 0 n)) (rows.set j l) := by
  subst hl
  obtain ⟨h1, h2, h3⟩ := h
  have hjc : j < cs.length := by omega
  have apart : ∀ j', j' ≠ j → ∀ g' n', cs.getD j' .nil = .ref (i, D) g' 0 n' → j' < rows.length → False := fun j' hne g' n' he hlt => by
    rcases hnew with ⟨_, hi'⟩ | ⟨g0, n0, he0⟩
    · rcases h2 j' hlt with ⟨e, _⟩ | ⟨i1, g1, e, hi1, _⟩
      · rw [e] at he; cases he
      · rw [e] at he; injection he with he; injection he with he; omega
    · rcases Nat.lt_or_gt_of_ne hne with hlt' | hlt'
      · exact h3 j' j i g' n' g0 n0 hlt' he he0
      · exact h3 j j' i g0 n0 g' n' hlt' he0 he
  have out : ∀ j', ¬ j' < rows.length → cs.getD j' .nil = .nil := fun j' hj' => by
    simp [List.getD, List.getElem?_eq_none (show cs.length ≤ j' by omega)]
  refine ⟨by simpa using h1, fun j' hj' => ?_, fun j1 j2 i1 g1 n1 g2 n2 hlt e1 e2 => ?_⟩
  · have hj'' : j' < rows.length := by simpa using hj'
    rw [getD_set _ _ _ _ _ hjc, getD_set _ _ _ _ _ hj]
    by_cases e : j = j'
    · rw [if_pos e, if_pos e]
      exact .inr ⟨i, g, rfl, hi, hrow, by simp [cS_length]⟩
    · rw [if_neg e, if_neg e]
      rcases h2 j' hj'' with hh | ⟨i1, g1, e1, hi1, e3, e4⟩
      · exact .inl hh
      · refine .inr ⟨i1, g1, e1, by omega, ?_, e4⟩
        rw [ho i1 hi1 (fun hc => by subst hc; exact apart j' (fun hc => e hc.symm) _ _ e1 hj''), e3]
  · rw [getD_set _ _ _ _ _ hjc] at e1 e2
    have bound : ∀ j', (∃ i g n, cs.getD j' .nil = .ref i g 0 n) → j' < rows.length := fun j' ⟨i, g, n, he⟩ => by
      by_cases hb : j' < rows.length
      · exact hb
      · rw [out j' hb] at he; cases he
    by_cases c1 : j = j1
    · rw [if_pos c1] at e1
      rw [if_neg (by omega)] at e2
      injection e1 with e1; injection e1 with e1
      subst e1
      exact apart j2 (by omega) _ _ e2 (bound j2 ⟨_, _, _, e2⟩)
    · rw [if_neg c1] at e1
      by_cases c2 : j = j2
      · rw [if_pos c2] at e2
        injection e2 with e2; injection e2 with e2
        subst e2
        exact apart j1 (by omega) _ _ e1 (bound j1 ⟨_, _, _, e1⟩)
      · rw [if_neg c2] at e2
        exact h3 j1 j2 i1 g1 n1 g2 n2 hlt e1 e2
theorem getD_snoc {α : Type} (l : List α) (x d : α) (j : Nat) : (l ++ [x]).getD j d = if j < l.length then l.getD j d else if j = l.length then x else d := by
  simp only [List.getD, List.getElem?_append]
  by_cases h : j < l.length
  · simp [h]
  · by_cases h2 : j = l.length
    · simp [h2]
    · have : j - l.length ≠ 0 := by omega
      simp [h, h2, this]
/-- One more row, a new one. -/
theorem NI.snoc {D o nx cs rows} (h : NI D o nx cs rows) {o' : Ob} {nx' : Nat} {i : Nat} {g : Tag} {l : List Int} {n : Nat} (hl : n = l.length) (hn : nx ≤ nx') (h1 : nx ≤ i) (h2 : i < nx') (ho : ∀ i', i' < nx → o' (i', D) = o (i', D)) (hrow : o' (i, D) = some (.row ⟨3, 1, g, false, true, cI l⟩)) :
    NI D o' nx' (cs ++ [.ref (i, D) g 0 n]) (rows ++ [l]) := by
  subst hl
  obtain ⟨hc, hr, hd⟩ := h
  have lt : ∀ {j i1 g1 n1}, cs.getD j .nil = .ref (i1, D) g1 0 n1 → j < cs.length → i1 < nx := fun {j i1 g1 n1} he hj => by
    rcases hr j (by omega) with ⟨e, _⟩ | ⟨i2, g2, e, hi2, _⟩
    · rw [e] at he; cases he
    · rw [e] at he; injection he with he; injection he with he; omega
  refine ⟨by simp [hc], fun j hj => ?_, fun j j' i1 g1 n1 g2 n2 hlt e1 e2 => ?_⟩
  · rw [getD_snoc, getD_snoc, hc]
    by_cases hj1 : j < rows.length
    · rw [if_pos hj1, if_pos hj1]
      exact (hr j hj1).keep ho hn
    · have hj2 : j = rows.length := by simp at hj; omega
      rw [if_neg hj1, if_neg hj1, if_pos hj2, if_pos hj2]
      exact .inr ⟨i, g, rfl, h2, hrow, by simp [cI]⟩
  · rw [getD_snoc] at e1 e2
    by_cases a1 : j < cs.length
    · rw [if_pos a1] at e1
      by_cases a2 : j' < cs.length
      · rw [if_pos a2] at e2
        exact hd j j' i1 g1 n1 g2 n2 hlt e1 e2
      · rw [if_neg a2] at e2
        have := lt e1 a1
        by_cases a3 : j' = cs.length
        · rw [if_pos a3] at e2
          injection e2 with e2; injection e2 with e2
          omega
        · rw [if_neg a3] at e2; cases e2
    · rw [if_neg (by omega), if_neg (by omega)] at e2
      cases e2
end Go.Proofs.YthhfjjnhkifbfaaDoor.A
/- strconv.Itoa: a number's digits, by the kit's shelf. -/
namespace Go.Proofs.YthhfjjnhkifbfaaDoor.A
open Go
noncomputable def renIt : Shelf.Ren := ⟨fun x => if x = 171 then 57 else if x = 243 then 60 else if x = 246 then 61 else if x = 283 then 62 else if x = 284 then 63 else if x = 285 then 64 else if x = 286 then 65 else if x = 129 then 67 else if x = 317 then 66 else if x = 318 then 68 else if x = 319 then 69 else if x = 320 then 70 else if x = 337 then 71 else if x = 338 then 72 else x, fun x => if x = 3 then 3 else if x = 9 then 9 else if x = 2 then 2 else if x = 4 then 4 else if x = 171 then 112 else if x = 0 then 0 else if x = 53 then 113 else if x = 37 then 116 else if x = 5 then 5 else if x = 173 then 117 else if x = 212 then 121 else if x = 51 then 122 else if x = 20 then 20 else if x = 213 then 123 else if x = 46 then 63 else if x = 232 then 126 else if x = 233 then 127 else x, fun x => if x = 17 then 0 else if x = 18 then 1 else if x = 19 then 2 else x⟩
theorem laysIt : LaysM.n171 Tryd.prog renIt where
  mixed := mixed
  f129 := Tryd.func67.trans (congrArg some (by kernel_rfl))
  f171 := Tryd.func57.trans (congrArg some (by kernel_rfl))
  f243 := Tryd.func60.trans (congrArg some (by kernel_rfl))
  f246 := Tryd.func61.trans (congrArg some (by kernel_rfl))
  f283 := Tryd.func62.trans (congrArg some (by kernel_rfl))
  f284 := Tryd.func63.trans (congrArg some (by kernel_rfl))
  f285 := Tryd.func64.trans (congrArg some (by kernel_rfl))
  f286 := Tryd.func65.trans (congrArg some (by kernel_rfl))
  f317 := Tryd.func66.trans (congrArg some (by kernel_rfl))
  f318 := Tryd.func68.trans (congrArg some (by kernel_rfl))
  f319 := Tryd.func69.trans (congrArg some (by kernel_rfl))
  f320 := Tryd.func70.trans (congrArg some (by kernel_rfl))
  f337 := Tryd.func71.trans (congrArg some (by kernel_rfl))
  f338 := Tryd.func72.trans (congrArg some (by kernel_rfl))
  t0 := Tryd.underlying0
  a0 := Tryd.isAgg0
  z0 := Tryd.sizeOf0
  v0 := Tryd.zeroValue0
  t2 := Tryd.underlying2
  a2 := Tryd.isAgg2
  z2 := Tryd.sizeOf2
  v2 := Tryd.zeroValue2
  t3 := Tryd.underlying3
  a3 := Tryd.isAgg3
  z3 := Tryd.sizeOf3
  v3 := Tryd.zeroValue3
  t4 := Tryd.underlying4
  a4 := Tryd.isAgg4
  z4 := Tryd.sizeOf4
  v4 := Tryd.zeroValue4
  t5 := Tryd.underlying5
  a5 := Tryd.isAgg5
  z5 := Tryd.sizeOf5
  v5 := Tryd.zeroValue5
  t9 := Tryd.underlying9
  a9 := Tryd.isAgg9
  z9 := Tryd.sizeOf9
  v9 := Tryd.zeroValue9
  t20 := Tryd.underlying20
  a20 := Tryd.isAgg20
  z20 := Tryd.sizeOf20
  v20 := Tryd.zeroValue20
  t37 := Tryd.underlying116
  a37 := Tryd.isAgg116
  z37 := Tryd.sizeOf116
  v37 := Tryd.zeroValue116
  t46 := Tryd.underlying63
  a46 := Tryd.isAgg63
  z46 := Tryd.sizeOf63
  v46 := Tryd.zeroValue63
  t51 := Tryd.underlying122
  a51 := Tryd.isAgg122
  z51 := Tryd.sizeOf122
  v51 := Tryd.zeroValue122
  t53 := Tryd.underlying113
  a53 := Tryd.isAgg113
  z53 := Tryd.sizeOf113
  v53 := Tryd.zeroValue113
  t171 := Tryd.underlying112
  a171 := Tryd.isAgg112
  z171 := Tryd.sizeOf112
  v171 := Tryd.zeroValue112
  t173 := Tryd.underlying117
  a173 := Tryd.isAgg117
  z173 := Tryd.sizeOf117
  v173 := Tryd.zeroValue117
  t212 := Tryd.underlying121
  a212 := Tryd.isAgg121
  z212 := Tryd.sizeOf121
  v212 := Tryd.zeroValue121
  t213 := Tryd.underlying123
  a213 := Tryd.isAgg123
  z213 := Tryd.sizeOf123
  t232 := Tryd.underlying126
  a232 := Tryd.isAgg126
  z232 := Tryd.sizeOf126
  v232 := Tryd.zeroValue126
  t233 := Tryd.underlying127
  a233 := Tryd.isAgg127
  z233 := Tryd.sizeOf127
  v233 := Tryd.zeroValue127
  g17 := by kernel_rfl
  g18 := by kernel_rfl
  g19 := by kernel_rfl
  i0 := by kernel_rfl
  i2 := by kernel_rfl
  i3 := by kernel_rfl
  i4 := by kernel_rfl
  i5 := by kernel_rfl
  i9 := by kernel_rfl
  i20 := by kernel_rfl
  i37 := by kernel_rfl
  i46 := by kernel_rfl
  i51 := by kernel_rfl
  i53 := by kernel_rfl
  i171 := by kernel_rfl
  i173 := by kernel_rfl
  i212 := by kernel_rfl
  i232 := by kernel_rfl
  i233 := by kernel_rfl
  m17 := by kernel_rfl
  m18 := by kernel_rfl
  m19 := by kernel_rfl
theorem gl_tab {S : Nat → Prop} {w : World} (h : Gl S w) : Lib.TabIs Tryd.prog w "internal/strconv.uint64pow10" .u64 Lib.pow10Tab := by
  obtain ⟨_, t, m, hh⟩ := h _ (List.mem_singleton.2 rfl)
  unfold Lib.TabIs World.var?
  rw [show Tryd.prog.globalNamed "internal/strconv.uint64pow10" = some 0 by kernel_rfl]
  simp only [Option.bind_some]
  rw [hh]
def RItoa (args : List AV) (r : AV) : Prop := ∃ n : Int, -9223372036854775808 ≤ n ∧ n ≤ 9223372036854775807 ∧ args = [.int .i64 n] ∧ r = .str (Lib.itoa n)
theorem RItoa_fn : Fun1 RItoa := by
  rintro args r r' ⟨n, _, _, rfl, rfl⟩ ⟨n', _, _, h, rfl⟩
  simp only [List.cons.injEq, AV.int.injEq, true_and, and_true] at h
  rw [h]
theorem RItoa_ok (args r) (h : RItoa args r) : Ok Tryd.prog 57 args r := by
  obtain ⟨n, h0, h1, rfl, rfl⟩ := h
  refine ⟨⟨Tryd.f57, Tryd.func57, by kernel_rfl, by kernel_rfl⟩, fun S w cargs ha hS hG => ?_⟩
  obtain ⟨hl, hr⟩ := ha
  match cargs, hl with
  | [u], _ =>
    have h2 := hr 0 _ _ rfl rfl
    cases h2
    refine (Any.strconv_Itoa laysIt n h0 h1 w (gl_tab hG)).mono ?_
    rintro e w' ⟨rfl, k, os, rfl⟩
    have hb : RowKit.Below w.heap.size w (Sort.grow (w.drewN k) os) := by
      have hd : (w.drewN k).heap = w.heap ∧ (w.drewN k).os = w.os ∧ (w.drewN k).tape = w.tape ∧ (w.drewN k).output = w.output := by
        cases k <;> exact ⟨rfl, rfl, rfl, rfl⟩
      refine ⟨hd.2.1, hd.2.2.1, hd.2.2.2, by rw [Sort.size_grow, hd.1]; omega, fun i hi => ?_⟩
      rw [Sort.heap_grow_old _ _ (by rw [hd.1]; exact hi), hd.1]
    refine ⟨_, S, rfl, hb, .str _, fun _ h => h, fun b hb' => ⟨.inl hb', ?_⟩⟩
    have h5 := hS b hb'
    have h6 := hb.size
    omega
end Go.Proofs.YthhfjjnhkifbfaaDoor.A
/- Machines of one way out of machines of many: a number's digits, a set's name. -/
namespace Go.Proofs.YthhfjjnhkifbfaaDoor.A
open Go
set_option maxRecDepth 20000
theorem dec_lt10 {n : Nat} (h : n < 10) : Lib.decDigits n = [UInt8.ofNat (48 + n)] := by rw [Lib.decDigits, dif_pos h]
theorem dec_ge10 {n : Nat} (h : ¬ n < 10) : Lib.decDigits n = Lib.decDigits (n / 10) ++ [UInt8.ofNat (48 + n % 10)] := by rw [Lib.decDigits, dif_neg h]
theorem itoaS_dec {n : Nat} (h : n < 1000) : Lib.decDigits n = itoaS n := by
  unfold itoaS
  by_cases h1 : n < 10
  · rw [if_pos h1, dec_lt10 h1]
  · rw [if_neg h1, dec_ge10 h1]
    by_cases h2 : n < 100
    · rw [if_pos h2, dec_lt10 (by omega)]
      rfl
    · rw [if_neg h2, dec_ge10 (n := n / 10) (by omega), dec_lt10 (by omega), Nat.div_div_eq_div_mul]
      rfl
noncomputable def XIt : FuncId → List AV → Option AV := tabLook [(57, tRel RItoa)]
theorem XIt_ok : CPSound Tryd.prog XIt := tab_cons (tab_nil _) (tRel_ok RItoa_ok)
theorem XIt_eq {x : Int} (h : 0 ≤ x ∧ x < 1000) : XIt 57 [.int .i64 x] = some (.str (itoaS x.toNat)) := by
  obtain ⟨n, rfl⟩ := Int.eq_ofNat_of_zero_le h.1
  have e : Lib.itoa (n : Int) = itoaS n := by
    unfold Lib.itoa
    rw [if_neg (by omega), show ((n : Int)).toNat = n by omega]
    exact itoaS_dec (by omega)
  rw [show ((n : Int)).toNat = n by omega, ← e]
  exact tRel_eq (R := RItoa) RItoa_fn ⟨(n : Int), by omega, by omega, rfl, rfl⟩
theorem itoaS_le (n : Nat) : (itoaS n).length ≤ 3 := by
  unfold itoaS
  split
  · simp
  · split <;> simp
theorem nameS_le (l : List Int) : (nameS l).length ≤ 4 * l.length := by
  induction l with
  | nil => simp [nameS]
  | cons x l ih =>
    have h1 := itoaS_le x.toNat
    have : nameS (x :: l) = itoaS x.toNat ++ [32] ++ nameS l := rfl
    rw [this]
    simp only [List.length_append, List.length_cons, List.length_nil]
    omega
theorem lookNm (X) : lookedAt (EX md0 X) (fun _ => none) 1 Tryd.f44 = true := by kernel_rfl
theorem name_ok (l : List Int) (hl : l.length ≤ 1000) (hin : ∀ x ∈ l, 0 ≤ x ∧ x < 1000) : Ok Tryd.prog 44 [slI l] (.str (nameS l)) := by
  refine ok_of_WP (E := EX md0 XIt) (cr := noR) XIt_ok (noR_ok _) mixed (k := l.length + 1) Tryd.func44 (lookNm _) rfl ?_
  simp only [Tryd.f44, Option.getD_some]
  simp (disch := omega) only [go_sem, ↓IntWalk.iteOmega, IntWalk.toNatUp, Nat.reduceEqDiff, Nat.reduceAdd, Nat.reduceMul, Nat.reduceSub, Nat.reduceLT, Nat.reduceLeDiff, Int.reduceToNat, Int.reduceLT, Int.reduceLE, Int.reduceEq, Int.reduceAdd, Int.reduceSub, Int.reduceMul, Int.toNat_natCast, reduceCtorEq, decide_true, decide_false, IntWalk.i64_in, IntWalk.u64_in, IntWalk.u8_in]
  refine WP_loop (fun m a o nx => ∃ i, i ≤ l.length ∧ m = l.length - i ∧ a 3 = .str (nameS (l.take i)) ∧ a 6 = slI l ∧ a 7 = .int .i64 l.length ∧ a 8 = .int .i64 i) l.length (by omega) ⟨0, by omega, by omega, by simp (disch := omega) only [go_sem, ↓IntWalk.iteOmega, IntWalk.toNatUp, Nat.reduceEqDiff, Nat.reduceAdd, Nat.reduceMul, Nat.reduceSub, Nat.reduceLT, Nat.reduceLeDiff, Int.reduceToNat, Int.reduceLT, Int.reduceLE, Int.reduceEq, Int.reduceAdd, Int.reduceSub, Int.reduceMul, Int.toNat_natCast, reduceCtorEq, decide_true, decide_false, IntWalk.i64_in, IntWalk.u64_in, IntWalk.u8_in]; rfl, by simp (disch := omega) only [go_sem, ↓IntWalk.iteOmega, IntWalk.toNatUp, Nat.reduceEqDiff, Nat.reduceAdd, Nat.reduceMul, Nat.reduceSub, Nat.reduceLT, Nat.reduceLeDiff, Int.reduceToNat, Int.reduceLT, Int.reduceLE, Int.reduceEq, Int.reduceAdd, Int.reduceSub, Int.reduceMul, Int.toNat_natCast, reduceCtorEq, decide_true, decide_false, IntWalk.i64_in, IntWalk.u64_in, IntWalk.u8_in], by simp (disch := omega) only [go_sem, ↓IntWalk.iteOmega, IntWalk.toNatUp, Nat.reduceEqDiff, Nat.reduceAdd, Nat.reduceMul, Nat.reduceSub, Nat.reduceLT, Nat.reduceLeDiff, Int.reduceToNat, Int.reduceLT, Int.reduceLE, Int.reduceEq, Int.reduceAdd, Int.reduceSub, Int.reduceMul, Int.toNat_natCast, reduceCtorEq, decide_true, decide_false, IntWalk.i64_in, IntWalk.u64_in, IntWalk.u8_in], by simp (disch := omega) only [go_sem, ↓IntWalk.iteOmega, IntWalk.toNatUp, Nat.reduceEqDiff, Nat.reduceAdd, Nat.reduceMul, Nat.reduceSub, Nat.reduceLT, Nat.reduceLeDiff, Int.reduceToNat, Int.reduceLT, Int.reduceLE, Int.reduceEq, Int.reduceAdd, Int.reduceSub, Int.reduceMul, Int.toNat_natCast, reduceCtorEq, decide_true, decide_false, IntWalk.i64_in, IntWalk.u64_in, IntWalk.u8_in]⟩ ?_
  rintro m a o nx ⟨i, hi, rfl, h3, h6, h7, h8⟩
  by_cases hlt : i < l.length
  · have hat := cI_get (s := 1) hlt
    have hmem := hin _ (getD_mem hlt 0)
    have htk := take_succ_getD hlt 0
    have hle := nameS_le (l.take i)
    rw [List.length_take] at hle
    generalize l.getD i 0 = x at hat hmem htk
    have hit := XIt_eq hmem
    have h3le := itoaS_le x.toNat
    simp (disch := omega) only [go_sem, ↓IntWalk.iteOmega, IntWalk.toNatUp, Nat.reduceEqDiff, Nat.reduceAdd, Nat.reduceMul, Nat.reduceSub, Nat.reduceLT, Nat.reduceLeDiff, Int.reduceToNat, Int.reduceLT, Int.reduceLE, Int.reduceEq, Int.reduceAdd, Int.reduceSub, Int.reduceMul, Int.toNat_natCast, reduceCtorEq, decide_true, decide_false, IntWalk.i64_in, IntWalk.u64_in, IntWalk.u8_in, h3, h6, h7, h8, hat, hit]
    exact ⟨_, by omega, i + 1, by omega, rfl, by rw [htk, nameS_snoc, List.append_assoc], rfl⟩
  · have e : i = l.length := by omega
    subst e
    rw [List.take_length] at h3
    simp (disch := omega) only [go_sem, ↓IntWalk.iteOmega, IntWalk.toNatUp, Nat.reduceEqDiff, Nat.reduceAdd, Nat.reduceMul, Nat.reduceSub, Nat.reduceLT, Nat.reduceLeDiff, Int.reduceToNat, Int.reduceLT, Int.reduceLE, Int.reduceEq, Int.reduceAdd, Int.reduceSub, Int.reduceMul, Int.toNat_natCast, reduceCtorEq, decide_true, decide_false, IntWalk.i64_in, IntWalk.u64_in, IntWalk.u8_in, h3, h6, h7, h8]
def RNm (args : List AV) (r : AV) : Prop := ∃ l : List Int, l.length ≤ 1000 ∧ (∀ x ∈ l, 0 ≤ x ∧ x < 1000) ∧ args = [slI l] ∧ r = .str (nameS l)
theorem RNm_fn : Fun1 RNm := by
  rintro args r r' ⟨l, _, _, rfl, rfl⟩ ⟨l', _, _, h, rfl⟩
  simp only [List.cons.injEq, and_true] at h
  rw [slI_inj h]
theorem RNm_ok (args r) (h : RNm args r) : Ok Tryd.prog 44 args r := by
  obtain ⟨l, h1, h2, rfl, rfl⟩ := h
  exact name_ok l h1 h2
end Go.Proofs.YthhfjjnhkifbfaaDoor.A
/- Machines of one way out of machines of many: the number of a set. -/
namespace Go.Proofs.YthhfjjnhkifbfaaDoor.A
open Go
set_option maxRecDepth 20000
abbrev subP : AV := .ptr (1, 20) (1, 20) 0
structure SubRow (o : Ob) (nx : Nat) (N : Nat) (S F : Int) (ss : List St3) (fs : List (Int × Int)) (lr : List (List St3)) (L : List (List Bool)) (lcs : List AV) (vS : AV) (scs : List AV) : Prop where
  two : 2 ≤ nx
  row : o (1, 20) = some (.row ⟨74, 1, (1, 20), false, true, [.int .i64 N, .int .i64 S, .int .i64 F, .sl ss.length (cS ss), .sl fs.length (cP fs), .ref (1, 17) (1, 17) 0 N, .mp (1, 18), vS]⟩)
  leads : o (1, 17) = some (.row ⟨38, 1, (1, 17), false, true, lcs⟩)
  rows : NS 44 o nx lcs lr
  ll : lr.length = N
  known : o (1, 18) = some (.map (knownS L))
  hs : HS 26 1 45 o nx vS L.length scs
  ni : NI 34 o nx scs (L.map idxs)
  ne : ∀ x ∈ scs, x ≠ .nil
def SubAt (o : Ob) (nx : Nat) (N : Nat) (S F : Int) (ss : List St3) (fs : List (Int × Int)) (lr : List (List St3)) (L : List (List Bool)) : Prop := ∃ lcs vS scs, SubRow o nx N S F ss fs lr L lcs vS scs
/-- What a call of met, of by leaves. -/
def SKeep (nx : Nat) (o o' : Ob) : Prop := ∀ i k, i < nx → k ≠ 20 → k ≠ 18 → k ≠ 45 → k ≠ 40 → o' (i, k) = o (i, k)
def BKeep40 (nx : Nat) (o o' : Ob) : Prop := ∀ i k, i < nx → k ≠ 40 → o' (i, k) = o (i, k)
theorem SubAt.keep {o nx N S F ss fs lr L} (h : SubAt o nx N S F ss fs lr L) {o' : Ob} {nx' : Nat} (hk : BKeep40 nx o o') (hn : nx ≤ nx') : SubAt o' nx' N S F ss fs lr L := by
  obtain ⟨lcs, vS, scs, h⟩ := h
  have h2 := h.two
  exact ⟨lcs, vS, scs, ⟨by omega, by rw [hk _ _ (by omega) (by decide)]; exact h.row, by rw [hk _ _ (by omega) (by decide)]; exact h.leads, h.rows.keep (fun i hi => hk i _ hi (by decide)) hn, h.ll, by rw [hk _ _ (by omega) (by decide)]; exact h.known, h.hs.keep (fun i hi => hk i _ hi (by decide)) hn, h.ni.keep (fun i hi => hk i _ hi (by decide)) hn, h.ne⟩⟩
noncomputable def XNm : FuncId → List AV → Option AV := tabLook [(44, tRel RNm)]
theorem XNm_ok : CPSound Tryd.prog XNm := tab_cons (tab_nil _) (tRel_ok RNm_ok)
theorem XNm_eq {l : List Int} (h1 : l.length ≤ 1000) (h2 : ∀ x ∈ l, 0 ≤ x ∧ x < 1000) : XNm 44 [slI l] = some (.str (nameS l)) := tRel_eq (R := RNm) RNm_fn ⟨l, h1, h2, rfl, rfl⟩
theorem lookMet (X) : lookedAt (EX md0 X) (fun _ => none) 2 Tryd.f32 = true := by kernel_rfl
theorem met_wp {cr : CallR} {k : Nat} {o : Ob} {nx : Nat} {N : Nat} {S F : Int} {ss fs lr} {L : List (List Bool)} (hN : N ≤ 1000) (h : SubAt o nx N S F ss fs lr L) (hL : ∀ b ∈ L, b.length = N) (hLn : L.length ≤ 100000) {t : List Bool} (ht : t.length = N) :
    WP (EX md0 XNm) cr k (fun _ => none) (Tryd.f32.body.getD .skip) (begin_ [subP, slI (idxs t)]) o nx (fun u a o' nx' => u = .ret ∧ a 4 = .int .i64 (L.idxOf t : Int) ∧ nx ≤ nx' ∧ SubAt o' nx' N S F ss fs lr (metS L t) ∧ SKeep nx o o') := by
  obtain ⟨lcs, vS, scs, h⟩ := h
  have h2 := h.two
  have hrow := h.row
  have hkn := h.known
  have hld := h.leads
  have hidx := idxs_le t
  have hnm := XNm_eq (l := idxs t) (by omega) (fun x hx => by have := idxs_in hx; omega)
  have hf := findA_known (by omega) ht (n := 0) hL
  rw [Nat.zero_add] at hf
  unfold nm at hf
  have hz : (cI (List.replicate (idxs t).length 0)).drop (idxs t).length = [] := by simp [cI]
  simp only [Tryd.f32, Option.getD_some]
  by_cases hm : t ∈ L
  · rw [if_pos hm] at hf
    simp (disch := omega) only [go_sem, ↓IntWalk.iteOmega, IntWalk.toNatUp, Nat.reduceEqDiff, Nat.reduceAdd, Nat.reduceMul, Nat.reduceSub, Nat.reduceLT, Nat.reduceLeDiff, Int.reduceToNat, Int.reduceLT, Int.reduceLE, Int.reduceEq, Int.reduceAdd, Int.reduceSub, Int.reduceMul, Int.toNat_natCast, reduceCtorEq, decide_true, decide_false, IntWalk.i64_in, IntWalk.u64_in, IntWalk.u8_in, hrow, hkn, hnm, hf]
    rw [metS_in L t hm]
    exact ⟨by omega, SubAt.keep ⟨lcs, vS, scs, h⟩ (fun _ _ _ _ => rfl) (by omega), fun _ _ _ _ _ _ _ => rfl⟩
  · rw [if_neg hm] at hf
    have hput := putA_known (by omega) ht hL hm
    unfold nm at hput
    have hup : ∀ (o : Ob) (nx : Nat), updM (1, 18) (.str (nameS (idxs t))) (.int .i64 (L.length : Int)) o nx (knownS L) = some ⟨upd o (1, 18) (.map (knownS (metS L t))), nx⟩ := fun o nx => by rw [updM_eq hf, hput]
    have hml : (metS L t).length = L.length + 1 := by rw [metS_out L t hm]; simp
    have hmi : (metS L t).map idxs = L.map idxs ++ [idxs t] := by rw [metS_out L t hm]; simp
    rw [List.idxOf_eq_length hm]
    rcases h.hs with ⟨rfl, e2, rfl⟩ | ⟨i1, g1, rfl, hi1, hrow1, hlen1⟩
    · have e4 : (L.length : Int) = 0 := by omega
      rw [e4] at hup ⊢
      simp (disch := omega) only [go_sem, ↓IntWalk.iteOmega, IntWalk.toNatUp, Nat.reduceEqDiff, Nat.reduceAdd, Nat.reduceMul, Nat.reduceSub, Nat.reduceLT, Nat.reduceLeDiff, Int.reduceToNat, Int.reduceLT, Int.reduceLE, Int.reduceEq, Int.reduceAdd, Int.reduceSub, Int.reduceMul, Int.toNat_natCast, reduceCtorEq, decide_true, decide_false, IntWalk.i64_in, IntWalk.u64_in, IntWalk.u8_in, hrow, hkn, hnm, hf, hup, hz, rep_int]
      refine ⟨by first | (congr 1; done) | (congr 1; omega), by omega, ⟨lcs, _, [] ++ [.ref (nx + 1 + 1 + 1 + 1 + 1, 34) (nx + 1 + 1 + 1 + 1 + 1, 34) 0 (idxs t).length], ⟨by omega, upd_same _ _ _, by simp (disch := omega) only [go_sem, ↓IntWalk.iteOmega, IntWalk.toNatUp, Nat.reduceEqDiff, Nat.reduceAdd, Nat.reduceMul, Nat.reduceSub, Nat.reduceLT, Nat.reduceLeDiff, Int.reduceToNat, Int.reduceLT, Int.reduceLE, Int.reduceEq, Int.reduceAdd, Int.reduceSub, Int.reduceMul, Int.toNat_natCast, reduceCtorEq, decide_true, decide_false, IntWalk.i64_in, IntWalk.u64_in, IntWalk.u8_in, hld], h.rows.keep (fun i hi => by simp (disch := omega) only [go_sem, ↓IntWalk.iteOmega, IntWalk.toNatUp, Nat.reduceEqDiff, Nat.reduceAdd, Nat.reduceMul, Nat.reduceSub, Nat.reduceLT, Nat.reduceLeDiff, Int.reduceToNat, Int.reduceLT, Int.reduceLE, Int.reduceEq, Int.reduceAdd, Int.reduceSub, Int.reduceMul, Int.toNat_natCast, reduceCtorEq, decide_true, decide_false, IntWalk.i64_in, IntWalk.u64_in, IntWalk.u8_in]) (by omega), h.ll, by simp (disch := omega) only [go_sem, ↓IntWalk.iteOmega, IntWalk.toNatUp, Nat.reduceEqDiff, Nat.reduceAdd, Nat.reduceMul, Nat.reduceSub, Nat.reduceLT, Nat.reduceLeDiff, Int.reduceToNat, Int.reduceLT, Int.reduceLE, Int.reduceEq, Int.reduceAdd, Int.reduceSub, Int.reduceMul, Int.toNat_natCast, reduceCtorEq, decide_true, decide_false, IntWalk.i64_in, IntWalk.u64_in, IntWalk.u8_in], ?_, ?_, ?_⟩⟩, ?_⟩
      · rw [hml]
        exact .inr ⟨nx + 1 + 1 + 1 + 1 + 1 + 1 + 1, (nx + 1 + 1 + 1 + 1 + 1 + 1 + 1, 45), by rw [e2], by omega, by simp (disch := omega) only [go_sem, ↓IntWalk.iteOmega, IntWalk.toNatUp, Nat.reduceEqDiff, Nat.reduceAdd, Nat.reduceMul, Nat.reduceSub, Nat.reduceLT, Nat.reduceLeDiff, Int.reduceToNat, Int.reduceLT, Int.reduceLE, Int.reduceEq, Int.reduceAdd, Int.reduceSub, Int.reduceMul, Int.toNat_natCast, reduceCtorEq, decide_true, decide_false, IntWalk.i64_in, IntWalk.u64_in, IntWalk.u8_in], by simp [e2]⟩
      · rw [hmi]
        exact NI.snoc h.ni rfl (by omega) (by omega) (by omega) (fun i hi => by simp (disch := omega) only [go_sem, ↓IntWalk.iteOmega, IntWalk.toNatUp, Nat.reduceEqDiff, Nat.reduceAdd, Nat.reduceMul, Nat.reduceSub, Nat.reduceLT, Nat.reduceLeDiff, Int.reduceToNat, Int.reduceLT, Int.reduceLE, Int.reduceEq, Int.reduceAdd, Int.reduceSub, Int.reduceMul, Int.toNat_natCast, reduceCtorEq, decide_true, decide_false, IntWalk.i64_in, IntWalk.u64_in, IntWalk.u8_in]) (by simp (disch := omega) only [go_sem, ↓IntWalk.iteOmega, IntWalk.toNatUp, Nat.reduceEqDiff, Nat.reduceAdd, Nat.reduceMul, Nat.reduceSub, Nat.reduceLT, Nat.reduceLeDiff, Int.reduceToNat, Int.reduceLT, Int.reduceLE, Int.reduceEq, Int.reduceAdd, Int.reduceSub, Int.reduceMul, Int.toNat_natCast, reduceCtorEq, decide_true, decide_false, IntWalk.i64_in, IntWalk.u64_in, IntWalk.u8_in])
      · intro x hx
        rcases List.mem_append.1 hx with hx | hx
        · exact h.ne x hx
        · rw [List.mem_singleton.1 hx]
          exact fun hc => by cases hc
      · intro i k hi a1 a2 a3 a4
        have e1 : ¬ i = nx + 1 + 1 + 1 + 1 + 1 := by omega
        have e2 : ¬ i = nx + 1 + 1 + 1 + 1 + 1 + 1 + 1 := by omega
        simp [upd_app, a1, a2, a3, a4, e1, e2]
    · simp (disch := omega) only [go_sem, ↓IntWalk.iteOmega, IntWalk.toNatUp, Nat.reduceEqDiff, Nat.reduceAdd, Nat.reduceMul, Nat.reduceSub, Nat.reduceLT, Nat.reduceLeDiff, Int.reduceToNat, Int.reduceLT, Int.reduceLE, Int.reduceEq, Int.reduceAdd, Int.reduceSub, Int.reduceMul, Int.toNat_natCast, reduceCtorEq, decide_true, decide_false, IntWalk.i64_in, IntWalk.u64_in, IntWalk.u8_in, hrow, hkn, hnm, hf, hup, hz, hrow1, rep_int]
      have htk : scs.take L.length = scs := take_len (by omega)
      refine ⟨by first | (congr 1; done) | (congr 1; omega), by omega, ⟨lcs, _, scs ++ [.ref (nx + 1 + 1 + 1 + 1 + 1, 34) (nx + 1 + 1 + 1 + 1 + 1, 34) 0 (idxs t).length], ⟨by omega, upd_same _ _ _, by simp (disch := omega) only [go_sem, ↓IntWalk.iteOmega, IntWalk.toNatUp, Nat.reduceEqDiff, Nat.reduceAdd, Nat.reduceMul, Nat.reduceSub, Nat.reduceLT, Nat.reduceLeDiff, Int.reduceToNat, Int.reduceLT, Int.reduceLE, Int.reduceEq, Int.reduceAdd, Int.reduceSub, Int.reduceMul, Int.toNat_natCast, reduceCtorEq, decide_true, decide_false, IntWalk.i64_in, IntWalk.u64_in, IntWalk.u8_in, hld], h.rows.keep (fun i hi => by simp (disch := omega) only [go_sem, ↓IntWalk.iteOmega, IntWalk.toNatUp, Nat.reduceEqDiff, Nat.reduceAdd, Nat.reduceMul, Nat.reduceSub, Nat.reduceLT, Nat.reduceLeDiff, Int.reduceToNat, Int.reduceLT, Int.reduceLE, Int.reduceEq, Int.reduceAdd, Int.reduceSub, Int.reduceMul, Int.toNat_natCast, reduceCtorEq, decide_true, decide_false, IntWalk.i64_in, IntWalk.u64_in, IntWalk.u8_in]) (by omega), h.ll, by simp (disch := omega) only [go_sem, ↓IntWalk.iteOmega, IntWalk.toNatUp, Nat.reduceEqDiff, Nat.reduceAdd, Nat.reduceMul, Nat.reduceSub, Nat.reduceLT, Nat.reduceLeDiff, Int.reduceToNat, Int.reduceLT, Int.reduceLE, Int.reduceEq, Int.reduceAdd, Int.reduceSub, Int.reduceMul, Int.toNat_natCast, reduceCtorEq, decide_true, decide_false, IntWalk.i64_in, IntWalk.u64_in, IntWalk.u8_in], ?_, ?_, ?_⟩⟩, ?_⟩
      · rw [hml]
        exact .inr ⟨i1, (nx + 1 + 1 + 1 + 1 + 1 + 1 + 1, 45), rfl, by omega, by simp (disch := omega) only [go_sem, ↓IntWalk.iteOmega, IntWalk.toNatUp, Nat.reduceEqDiff, Nat.reduceAdd, Nat.reduceMul, Nat.reduceSub, Nat.reduceLT, Nat.reduceLeDiff, Int.reduceToNat, Int.reduceLT, Int.reduceLE, Int.reduceEq, Int.reduceAdd, Int.reduceSub, Int.reduceMul, Int.toNat_natCast, reduceCtorEq, decide_true, decide_false, IntWalk.i64_in, IntWalk.u64_in, IntWalk.u8_in]; rw [htk], by simp [hlen1]⟩
      · rw [hmi]
        exact NI.snoc h.ni rfl (by omega) (by omega) (by omega) (fun i hi => by simp (disch := omega) only [go_sem, ↓IntWalk.iteOmega, IntWalk.toNatUp, Nat.reduceEqDiff, Nat.reduceAdd, Nat.reduceMul, Nat.reduceSub, Nat.reduceLT, Nat.reduceLeDiff, Int.reduceToNat, Int.reduceLT, Int.reduceLE, Int.reduceEq, Int.reduceAdd, Int.reduceSub, Int.reduceMul, Int.toNat_natCast, reduceCtorEq, decide_true, decide_false, IntWalk.i64_in, IntWalk.u64_in, IntWalk.u8_in]) (by simp (disch := omega) only [go_sem, ↓IntWalk.iteOmega, IntWalk.toNatUp, Nat.reduceEqDiff, Nat.reduceAdd, Nat.reduceMul, Nat.reduceSub, Nat.reduceLT, Nat.reduceLeDiff, Int.reduceToNat, Int.reduceLT, Int.reduceLE, Int.reduceEq, Int.reduceAdd, Int.reduceSub, Int.reduceMul, Int.toNat_natCast, reduceCtorEq, decide_true, decide_false, IntWalk.i64_in, IntWalk.u64_in, IntWalk.u8_in])
      · intro x hx
        rcases List.mem_append.1 hx with hx | hx
        · exact h.ne x hx
        · rw [List.mem_singleton.1 hx]
          exact fun hc => by cases hc
      · intro i k hi a1 a2 a3 a4
        have e1 : ¬ i = nx + 1 + 1 + 1 + 1 + 1 := by omega
        have e2 : ¬ i = nx + 1 + 1 + 1 + 1 + 1 + 1 + 1 := by omega
        simp [upd_app, a1, a2, a3, a4, e1, e2]
end Go.Proofs.YthhfjjnhkifbfaaDoor.A
/- Machines of one way out of machines of many: where a mode leads a set. -/
namespace Go.Proofs.YthhfjjnhkifbfaaDoor.A
open Go
set_option maxRecDepth 20000
theorem BKeep40.refl (n o) : BKeep40 n o o := fun _ _ _ _ => rfl
theorem BKeep40.upd {n : Nat} {o0 o : Ob} {j d : Nat} {x : AObj} (h : BKeep40 n o0 o) (hj : n ≤ j ∨ d = 40) : BKeep40 n o0 (A.upd o (j, d) x) := fun i k hi hk => by
  have e : ¬ (i, k) = (j, d) := fun hc => by
    injection hc with h1 h2
    omega
  rw [A.upd, if_neg e]
  exact h i k hi hk
theorem BKeep40.seal {n : Nat} {o0 o : Ob} {ts : List Tag} (h : BKeep40 n o0 o) (ht : ∀ t ∈ ts, t.2 = 40) : BKeep40 n o0 (sealed ts o) := fun i k hi hk => by
  rw [sealed_out (fun hm => hk (ht _ hm))]
  exact h i k hi hk
def RClo (args : List AV) (r : AV) : Prop := ∃ (N : Nat) (S F : Int) (ss : List (Int × Int × Int)) (fs : List (Int × Int)) (l : List Int), Wf N S F ss fs ∧ l.length ≤ 9000000 ∧ args = [nfaV N S F ss fs, slI l] ∧ r = slI (idxs (closeB N (rowsOf N fs) l))
theorem RClo_fn : Fun1 RClo := by
  rintro args r r' ⟨N, S, F, ss, fs, w, _, _, rfl, rfl⟩ ⟨N', S', F', ss', fs', w', _, _, h, rfl⟩
  simp only [List.cons.injEq, and_true] at h
  obtain ⟨h1, h2, h3, h4, h5⟩ := nfaV_inj h.1
  have h1 : N = N' := by omega
  rw [h1, h5, slI_inj h.2]
theorem RClo_ok (args r) (h : RClo args r) : Ok Tryd.prog 33 args r := by obtain ⟨N, S, F, ss, fs, w, h1, h2, rfl, rfl⟩ := h; exact nfaClose_ok N h1.n S F ss fs h1.lf (fun p hp => (h1.free p hp).1) w h2
noncomputable def XClo : FuncId → List AV → Option AV := tabLook [(33, tRel RClo)]
theorem XClo_ok : CPSound Tryd.prog XClo := tab_cons (tab_nil _) (tRel_ok RClo_ok)
theorem XClo_eq {N : Nat} {S F : Int} {ss fs} (hw : Wf N S F ss fs) (l : List Int) (h : l.length ≤ 9000000) : XClo 33 [nfaV N S F ss fs, slI l] = some (slI (idxs (closeB N (rowsOf N fs) l))) := tRel_eq (R := RClo) RClo_fn ⟨_, _, _, _, _, _, hw, h, rfl, rfl⟩
theorem lookBy (X) : lookedAt (EX md0 X) (fun _ => none) 3 Tryd.f34 = true := by kernel_rfl
theorem by_wp {cr : CallR} {k : Nat} {o0 : Ob} {nx0 : Nat} {N : Nat} {S F : Int} {ss fs} {L : List (List Bool)} (hN : N ≤ 1000) (hw : Wf N S F ss fs) (hss : ss.length ≤ 1000) (h : SubAt o0 nx0 N S F ss fs (leadsOf N ss) L) {b : List Bool} (hb : b.length = N) {q : Nat} {g : Tag} (hq : q < nx0) (hrow : o0 (q, 34) = some (.row ⟨3, 1, g, false, true, cI (idxs b)⟩)) {m : Int} (hm : 0 ≤ m ∧ m < 5) (hk : 1000 < k) :
    WP (EX md0 XClo) cr k (fun _ => none) (Tryd.f34.body.getD .skip) (begin_ [subP, .ref (q, 34) g 0 (idxs b).length, .int .i64 m]) o0 nx0 (fun u a o' nx' => u = .ret ∧ a 6 = slI (idxs (stepB N (rowsOf N fs) ss b m)) ∧ nx0 ≤ nx' ∧ BKeep40 nx0 o0 o') := by
  obtain ⟨lcs, vS, scs, h⟩ := h
  have h2 := h.two
  have hcl : lcs.length = N := by rw [h.rows.1, h.ll]
  have hidx := idxs_le b
  have hbyle : ∀ l : List Int, (byL (leadsOf N ss) m l).length ≤ l.length * 1000 := fun l => byL_le (fun j => by have := leadsOf_le N ss j; omega) m l
  simp only [Tryd.f34, Option.getD_some]
  simp (disch := omega) only [go_sem, ↓IntWalk.iteOmega, IntWalk.toNatUp, Nat.reduceEqDiff, Nat.reduceAdd, Nat.reduceMul, Nat.reduceSub, Nat.reduceLT, Nat.reduceLeDiff, Int.reduceToNat, Int.reduceLT, Int.reduceLE, Int.reduceEq, Int.reduceAdd, Int.reduceSub, Int.reduceMul, Int.toNat_natCast, reduceCtorEq, decide_true, decide_false, IntWalk.i64_in, IntWalk.u64_in, IntWalk.u8_in]
  refine WP_loop (fun mm a o nx => ∃ i v, i ≤ (idxs b).length ∧ mm = (idxs b).length - i ∧ nx0 ≤ nx ∧ HS 3 1 40 o nx v (byL (leadsOf N ss) m ((idxs b).take i)).length (cI (byL (leadsOf N ss) m ((idxs b).take i))) ∧ BKeep40 nx0 o0 o ∧ a 0 = subP ∧ a 2 = .int .i64 m ∧ a 7 = v ∧ a 12 = .ref (q, 34) g 0 (idxs b).length ∧ a 13 = .int .i64 (idxs b).length ∧ a 14 = .int .i64 i) (idxs b).length (by omega)
    ⟨0, .nil, by omega, by omega, by omega, by rw [List.take_zero]; exact HS.nil, BKeep40.refl _ _, by simp (disch := omega) only [go_sem, ↓IntWalk.iteOmega, IntWalk.toNatUp, Nat.reduceEqDiff, Nat.reduceAdd, Nat.reduceMul, Nat.reduceSub, Nat.reduceLT, Nat.reduceLeDiff, Int.reduceToNat, Int.reduceLT, Int.reduceLE, Int.reduceEq, Int.reduceAdd, Int.reduceSub, Int.reduceMul, Int.toNat_natCast, reduceCtorEq, decide_true, decide_false, IntWalk.i64_in, IntWalk.u64_in, IntWalk.u8_in], by simp (disch := omega) only [go_sem, ↓IntWalk.iteOmega, IntWalk.toNatUp, Nat.reduceEqDiff, Nat.reduceAdd, Nat.reduceMul, Nat.reduceSub, Nat.reduceLT, Nat.reduceLeDiff, Int.reduceToNat, Int.reduceLT, Int.reduceLE, Int.reduceEq, Int.reduceAdd, Int.reduceSub, Int.reduceMul, Int.toNat_natCast, reduceCtorEq, decide_true, decide_false, IntWalk.i64_in, IntWalk.u64_in, IntWalk.u8_in], by simp (disch := omega) only [go_sem, ↓IntWalk.iteOmega, IntWalk.toNatUp, Nat.reduceEqDiff, Nat.reduceAdd, Nat.reduceMul, Nat.reduceSub, Nat.reduceLT, Nat.reduceLeDiff, Int.reduceToNat, Int.reduceLT, Int.reduceLE, Int.reduceEq, Int.reduceAdd, Int.reduceSub, Int.reduceMul, Int.toNat_natCast, reduceCtorEq, decide_true, decide_false, IntWalk.i64_in, IntWalk.u64_in, IntWalk.u8_in], by simp (disch := omega) only [go_sem, ↓IntWalk.iteOmega, IntWalk.toNatUp, Nat.reduceEqDiff, Nat.reduceAdd, Nat.reduceMul, Nat.reduceSub, Nat.reduceLT, Nat.reduceLeDiff, Int.reduceToNat, Int.reduceLT, Int.reduceLE, Int.reduceEq, Int.reduceAdd, Int.reduceSub, Int.reduceMul, Int.toNat_natCast, reduceCtorEq, decide_true, decide_false, IntWalk.i64_in, IntWalk.u64_in, IntWalk.u8_in], by simp (disch := omega) only [go_sem, ↓IntWalk.iteOmega, IntWalk.toNatUp, Nat.reduceEqDiff, Nat.reduceAdd, Nat.reduceMul, Nat.reduceSub, Nat.reduceLT, Nat.reduceLeDiff, Int.reduceToNat, Int.reduceLT, Int.reduceLE, Int.reduceEq, Int.reduceAdd, Int.reduceSub, Int.reduceMul, Int.toNat_natCast, reduceCtorEq, decide_true, decide_false, IntWalk.i64_in, IntWalk.u64_in, IntWalk.u8_in], by simp (disch := omega) only [go_sem, ↓IntWalk.iteOmega, IntWalk.toNatUp, Nat.reduceEqDiff, Nat.reduceAdd, Nat.reduceMul, Nat.reduceSub, Nat.reduceLT, Nat.reduceLeDiff, Int.reduceToNat, Int.reduceLT, Int.reduceLE, Int.reduceEq, Int.reduceAdd, Int.reduceSub, Int.reduceMul, Int.toNat_natCast, reduceCtorEq, decide_true, decide_false, IntWalk.i64_in, IntWalk.u64_in, IntWalk.u8_in]⟩ ?_
  rintro mm a o nx ⟨i, v, hi, rfl, hnx, hHS, hkp, h0, hm2, h7, h12, h13, h14⟩
  have ho34 : o (q, 34) = _ := (hkp q 34 hq (by decide)).trans hrow
  have ho20 : o (1, 20) = _ := (hkp 1 20 (by omega) (by decide)).trans h.row
  have ho17 : o (1, 17) = _ := (hkp 1 17 (by omega) (by decide)).trans h.leads
  by_cases hlt : i < (idxs b).length
  · have hat := cI_get (s := 1) hlt
    have hmem := getD_mem hlt 0
    have htk := take_succ_getD hlt 0
    have hle := hbyle ((idxs b).take i)
    rw [List.length_take] at hle
    generalize (idxs b).getD i 0 = x at hat hmem htk
    have hx := idxs_in hmem
    obtain ⟨s, rfl⟩ := Int.eq_ofNat_of_zero_le hx.1
    have hsN : s < lcs.length := by omega
    have hget := cs_get (s := 1) hsN
    have hH := (h.rows.2.1 s (by rw [h.ll]; omega)).keep (o' := o) (nx' := nx) (fun i hi => hkp i 44 hi (by decide)) hnx
    have hrl := leadsOf_le N ss s
    have hsn : byL (leadsOf N ss) m ((idxs b).take (i + 1)) = byL (leadsOf N ss) m ((idxs b).take i) ++ hits m ((leadsOf N ss).getD s []) := by
      rw [htk, byL_snoc, show ((s : Int)).toNat = s by omega]
    generalize hlr : (leadsOf N ss).getD s [] = row at hH hrl hsn
    generalize hvv : lcs.getD s .nil = w at hH hget
    have hwl : ∀ o : Ob, aLen Tryd.prog o 38 w = some (.int .i64 (row.length : Int)) := by
      intro o
      rcases hH with ⟨rfl, e, _⟩ | ⟨i1, g1, rfl, _, _, _⟩
      · rw [e]; simp (disch := omega) only [go_sem, ↓IntWalk.iteOmega, IntWalk.toNatUp, Nat.reduceEqDiff, Nat.reduceAdd, Nat.reduceMul, Nat.reduceSub, Nat.reduceLT, Nat.reduceLeDiff, Int.reduceToNat, Int.reduceLT, Int.reduceLE, Int.reduceEq, Int.reduceAdd, Int.reduceSub, Int.reduceMul, Int.toNat_natCast, reduceCtorEq, decide_true, decide_false, IntWalk.i64_in, IntWalk.u64_in, IntWalk.u8_in]
      · simp (disch := omega) only [go_sem, ↓IntWalk.iteOmega, IntWalk.toNatUp, Nat.reduceEqDiff, Nat.reduceAdd, Nat.reduceMul, Nat.reduceSub, Nat.reduceLT, Nat.reduceLeDiff, Int.reduceToNat, Int.reduceLT, Int.reduceLE, Int.reduceEq, Int.reduceAdd, Int.reduceSub, Int.reduceMul, Int.toNat_natCast, reduceCtorEq, decide_true, decide_false, IntWalk.i64_in, IntWalk.u64_in, IntWalk.u8_in]
    have hrow1 : 0 < row.length → ∃ i1 g1, w = .ref (i1, 44) g1 0 row.length ∧ i1 < nx ∧ o (i1, 44) = some (.row ⟨69, 3, g1, false, true, cS row⟩) := by
      intro h
      rcases hH with ⟨_, e, _⟩ | ⟨i1, g1, e, hi1, e2, _⟩
      · omega
      · exact ⟨i1, g1, e, hi1, e2⟩
    clear hH hvv hlr htk hmem
    generalize hprev : byL (leadsOf N ss) m ((idxs b).take i) = prev at hHS hsn hle
    simp (disch := omega) only [go_sem, ↓IntWalk.iteOmega, IntWalk.toNatUp, Nat.reduceEqDiff, Nat.reduceAdd, Nat.reduceMul, Nat.reduceSub, Nat.reduceLT, Nat.reduceLeDiff, Int.reduceToNat, Int.reduceLT, Int.reduceLE, Int.reduceEq, Int.reduceAdd, Int.reduceSub, Int.reduceMul, Int.toNat_natCast, reduceCtorEq, decide_true, decide_false, IntWalk.i64_in, IntWalk.u64_in, IntWalk.u8_in, h0, hm2, h7, h12, h13, h14, ho34, ho20, ho17, hat, hget, hwl]
    refine WP_loop (fun mm a o' nx' => ∃ j v, j ≤ row.length ∧ mm = row.length - j ∧ nx ≤ nx' ∧ HS 3 1 40 o' nx' v (prev ++ hits m (row.take j)).length (cI (prev ++ hits m (row.take j))) ∧ BKeep40 nx o o' ∧ a 0 = subP ∧ a 2 = .int .i64 m ∧ a 7 = v ∧ a 12 = .ref (q, 34) g 0 (idxs b).length ∧ a 13 = .int .i64 (idxs b).length ∧ a 14 = .int .i64 i ∧ a 24 = w ∧ a 25 = .int .i64 row.length ∧ a 26 = .int .i64 j) row.length (by omega)
      ⟨0, v, by omega, by omega, by omega, by rw [List.take_zero]; simpa [hits] using hHS.keep (fun _ _ => rfl) (by omega), BKeep40.refl _ _, by simp (disch := omega) only [go_sem, ↓IntWalk.iteOmega, IntWalk.toNatUp, Nat.reduceEqDiff, Nat.reduceAdd, Nat.reduceMul, Nat.reduceSub, Nat.reduceLT, Nat.reduceLeDiff, Int.reduceToNat, Int.reduceLT, Int.reduceLE, Int.reduceEq, Int.reduceAdd, Int.reduceSub, Int.reduceMul, Int.toNat_natCast, reduceCtorEq, decide_true, decide_false, IntWalk.i64_in, IntWalk.u64_in, IntWalk.u8_in, h0], by simp (disch := omega) only [go_sem, ↓IntWalk.iteOmega, IntWalk.toNatUp, Nat.reduceEqDiff, Nat.reduceAdd, Nat.reduceMul, Nat.reduceSub, Nat.reduceLT, Nat.reduceLeDiff, Int.reduceToNat, Int.reduceLT, Int.reduceLE, Int.reduceEq, Int.reduceAdd, Int.reduceSub, Int.reduceMul, Int.toNat_natCast, reduceCtorEq, decide_true, decide_false, IntWalk.i64_in, IntWalk.u64_in, IntWalk.u8_in, hm2], by simp (disch := omega) only [go_sem, ↓IntWalk.iteOmega, IntWalk.toNatUp, Nat.reduceEqDiff, Nat.reduceAdd, Nat.reduceMul, Nat.reduceSub, Nat.reduceLT, Nat.reduceLeDiff, Int.reduceToNat, Int.reduceLT, Int.reduceLE, Int.reduceEq, Int.reduceAdd, Int.reduceSub, Int.reduceMul, Int.toNat_natCast, reduceCtorEq, decide_true, decide_false, IntWalk.i64_in, IntWalk.u64_in, IntWalk.u8_in, h7], by simp (disch := omega) only [go_sem, ↓IntWalk.iteOmega, IntWalk.toNatUp, Nat.reduceEqDiff, Nat.reduceAdd, Nat.reduceMul, Nat.reduceSub, Nat.reduceLT, Nat.reduceLeDiff, Int.reduceToNat, Int.reduceLT, Int.reduceLE, Int.reduceEq, Int.reduceAdd, Int.reduceSub, Int.reduceMul, Int.toNat_natCast, reduceCtorEq, decide_true, decide_false, IntWalk.i64_in, IntWalk.u64_in, IntWalk.u8_in, h12], by simp (disch := omega) only [go_sem, ↓IntWalk.iteOmega, IntWalk.toNatUp, Nat.reduceEqDiff, Nat.reduceAdd, Nat.reduceMul, Nat.reduceSub, Nat.reduceLT, Nat.reduceLeDiff, Int.reduceToNat, Int.reduceLT, Int.reduceLE, Int.reduceEq, Int.reduceAdd, Int.reduceSub, Int.reduceMul, Int.toNat_natCast, reduceCtorEq, decide_true, decide_false, IntWalk.i64_in, IntWalk.u64_in, IntWalk.u8_in, h13], by simp (disch := omega) only [go_sem, ↓IntWalk.iteOmega, IntWalk.toNatUp, Nat.reduceEqDiff, Nat.reduceAdd, Nat.reduceMul, Nat.reduceSub, Nat.reduceLT, Nat.reduceLeDiff, Int.reduceToNat, Int.reduceLT, Int.reduceLE, Int.reduceEq, Int.reduceAdd, Int.reduceSub, Int.reduceMul, Int.toNat_natCast, reduceCtorEq, decide_true, decide_false, IntWalk.i64_in, IntWalk.u64_in, IntWalk.u8_in, h14], by simp (disch := omega) only [go_sem, ↓IntWalk.iteOmega, IntWalk.toNatUp, Nat.reduceEqDiff, Nat.reduceAdd, Nat.reduceMul, Nat.reduceSub, Nat.reduceLT, Nat.reduceLeDiff, Int.reduceToNat, Int.reduceLT, Int.reduceLE, Int.reduceEq, Int.reduceAdd, Int.reduceSub, Int.reduceMul, Int.toNat_natCast, reduceCtorEq, decide_true, decide_false, IntWalk.i64_in, IntWalk.u64_in, IntWalk.u8_in], by simp (disch := omega) only [go_sem, ↓IntWalk.iteOmega, IntWalk.toNatUp, Nat.reduceEqDiff, Nat.reduceAdd, Nat.reduceMul, Nat.reduceSub, Nat.reduceLT, Nat.reduceLeDiff, Int.reduceToNat, Int.reduceLT, Int.reduceLE, Int.reduceEq, Int.reduceAdd, Int.reduceSub, Int.reduceMul, Int.toNat_natCast, reduceCtorEq, decide_true, decide_false, IntWalk.i64_in, IntWalk.u64_in, IntWalk.u8_in], by simp (disch := omega) only [go_sem, ↓IntWalk.iteOmega, IntWalk.toNatUp, Nat.reduceEqDiff, Nat.reduceAdd, Nat.reduceMul, Nat.reduceSub, Nat.reduceLT, Nat.reduceLeDiff, Int.reduceToNat, Int.reduceLT, Int.reduceLE, Int.reduceEq, Int.reduceAdd, Int.reduceSub, Int.reduceMul, Int.toNat_natCast, reduceCtorEq, decide_true, decide_false, IntWalk.i64_in, IntWalk.u64_in, IntWalk.u8_in]⟩ ?_
    clear hHS h0 hm2 h7 h12 h13 h14 ho34 ho20 ho17
    rintro mm a o' nx' ⟨j, v, hj, rfl, hnx', hHS, hkp', h0, hm2, h7, h12, h13, h14, h24, h25, h26⟩
    have hok := hHS.ok
    by_cases hjl : j < row.length
    · obtain ⟨i1, g1, rfl, hi1, hr1⟩ := hrow1 (by omega)
      have ho44 : o' (i1, 44) = _ := (hkp' i1 44 hi1 (by decide)).trans hr1
      have hat3 := cS_at hjl
      have htk3 := take_succ_getD hjl (0, 0, 0)
      have hle3 := hits_le m (row.take j)
      rw [List.length_take] at hle3
      generalize row.getD j (0, 0, 0) = p at hat3 htk3
      obtain ⟨f, t, set⟩ := p
      simp only at hat3
      have hsn3 : hits m (row.take (j + 1)) = hits m (row.take j) ++ (if hasMode set m then [t] else []) := by rw [htk3, hits_snoc]
      by_cases hmd : andI .i64 (set.fdiv (2 ^ min m.toNat 64)) 1 = 1
      · have hmd' : hasMode set m = true := decide_eq_true hmd
        rw [hmd', if_pos rfl] at hsn3
        rcases hHS with ⟨rfl, e2, e3⟩ | ⟨i2, g2, rfl, hi2, hrow2, hlen2⟩
        · have ep : prev ++ hits m (row.take j) = [] := List.length_eq_zero_iff.1 e2
          have elen : prev.length + (hits m (row.take (j + 1))).length = 1 := by rw [hsn3, List.length_append, ← Nat.add_assoc, ← List.length_append, ep]; rfl
          have ecs : cI (prev ++ hits m (row.take (j + 1))) = [.int .i64 t] := by rw [hsn3, ← List.append_assoc, ep]; rfl
          simp (disch := omega) only [go_sem, ↓IntWalk.iteOmega, IntWalk.toNatUp, Nat.reduceEqDiff, Nat.reduceAdd, Nat.reduceMul, Nat.reduceSub, Nat.reduceLT, Nat.reduceLeDiff, Int.reduceToNat, Int.reduceLT, Int.reduceLE, Int.reduceEq, Int.reduceAdd, Int.reduceSub, Int.reduceMul, Int.toNat_natCast, reduceCtorEq, decide_true, decide_false, IntWalk.i64_in, IntWalk.u64_in, IntWalk.u8_in, h0, hm2, h7, h12, h13, h14, h24, h25, h26, ho44, hat3, hmd]
          refine ⟨_, ?_, j + 1, _, by omega, rfl, by omega, ?_, ?_, rfl, rfl⟩
          · omega
          · rw [elen, ecs]
            exact .inr ⟨nx' + 1 + 1 + 1, _, rfl, by omega, upd_same _ _ _, rfl⟩
          · exact (((hkp'.upd (.inl (by omega))).upd (.inl (by omega))).upd (.inl (by omega))).upd (.inr rfl)
        · have elen : prev.length + (hits m (row.take (j + 1))).length = prev.length + (hits m (row.take j)).length + 1 := by rw [hsn3, List.length_append]; rfl
          have ecs : cI (prev ++ hits m (row.take (j + 1))) = cI (prev ++ hits m (row.take j)) ++ [.int .i64 t] := by rw [hsn3, ← List.append_assoc, cI_app]; rfl
          have etk : (cI (prev ++ hits m (row.take j))).take (prev.length + (hits m (row.take j)).length) = cI (prev ++ hits m (row.take j)) := take_len (by rw [cI_length, List.length_append])
          simp (disch := omega) only [go_sem, ↓IntWalk.iteOmega, IntWalk.toNatUp, Nat.reduceEqDiff, Nat.reduceAdd, Nat.reduceMul, Nat.reduceSub, Nat.reduceLT, Nat.reduceLeDiff, Int.reduceToNat, Int.reduceLT, Int.reduceLE, Int.reduceEq, Int.reduceAdd, Int.reduceSub, Int.reduceMul, Int.toNat_natCast, reduceCtorEq, decide_true, decide_false, IntWalk.i64_in, IntWalk.u64_in, IntWalk.u8_in, h0, hm2, h7, h12, h13, h14, h24, h25, h26, ho44, hat3, hmd, hrow2]
          refine ⟨_, ?_, j + 1, _, by omega, rfl, by omega, ?_, ?_, rfl, rfl⟩
          · omega
          · rw [elen, ecs]
            exact .inr ⟨i2, _, rfl, by omega, by rw [upd_same, etk], by simp only [List.length_append, cI_length, List.length_cons, List.length_nil]; omega⟩
          · exact (((hkp'.upd (.inl (by omega))).upd (.inl (by omega))).upd (.inl (by omega))).upd (.inr rfl)
      · have hmd' : hasMode set m = false := decide_eq_false hmd
        rw [hmd'] at hsn3
        simp only [Bool.false_eq_true, if_false, List.append_nil] at hsn3
        simp (disch := omega) only [go_sem, ↓IntWalk.iteOmega, IntWalk.toNatUp, Nat.reduceEqDiff, Nat.reduceAdd, Nat.reduceMul, Nat.reduceSub, Nat.reduceLT, Nat.reduceLeDiff, Int.reduceToNat, Int.reduceLT, Int.reduceLE, Int.reduceEq, Int.reduceAdd, Int.reduceSub, Int.reduceMul, Int.toNat_natCast, reduceCtorEq, decide_true, decide_false, IntWalk.i64_in, IntWalk.u64_in, IntWalk.u8_in, h0, hm2, h7, h12, h13, h14, h24, h25, h26, ho44, hat3, hmd]
        refine ⟨_, ?_, j + 1, _, by omega, rfl, by omega, ?_, ?_, rfl, rfl⟩
        · omega
        · rw [hsn3]
          rw [List.length_append] at hHS
          exact hHS.keep (fun _ _ => by simp [upd_app]) (by omega)
        · exact (hkp'.upd (.inl (by omega))).upd (.inl (by omega))
    · have hje : j = row.length := by omega
      subst hje
      rw [List.take_length, ← hsn] at hHS
      simp (disch := omega) only [go_sem, ↓IntWalk.iteOmega, IntWalk.toNatUp, Nat.reduceEqDiff, Nat.reduceAdd, Nat.reduceMul, Nat.reduceSub, Nat.reduceLT, Nat.reduceLeDiff, Int.reduceToNat, Int.reduceLT, Int.reduceLE, Int.reduceEq, Int.reduceAdd, Int.reduceSub, Int.reduceMul, Int.toNat_natCast, reduceCtorEq, decide_true, decide_false, IntWalk.i64_in, IntWalk.u64_in, IntWalk.u8_in, h0, hm2, h7, h12, h13, h14, h24, h25, h26]
      exact ⟨_, by omega, i + 1, v, by omega, rfl, by omega, hHS.keep (fun _ _ => rfl) (by omega), fun i k hi hk => (hkp' i k (by omega) hk).trans (hkp i k hi hk), rfl, rfl⟩
  · have hie : i = (idxs b).length := by omega
    subst hie
    rw [List.take_length] at hHS
    have hclo := XClo_eq hw (byL (leadsOf N ss) m (idxs b)) (by have := hbyle (idxs b); omega)
    rw [byL_close (fun p hp => (hw.steps p hp).1) hb hm] at hclo
    have hv : view o 1012 v = slI (byL (leadsOf N ss) m (idxs b)) := by rw [hHS.view 1011, view_cI]
    have htg := hHS.tags 1011 (tags_cI _ _ _)
    simp (disch := omega) only [go_sem, ↓IntWalk.iteOmega, IntWalk.toNatUp, Nat.reduceEqDiff, Nat.reduceAdd, Nat.reduceMul, Nat.reduceSub, Nat.reduceLT, Nat.reduceLeDiff, Int.reduceToNat, Int.reduceLT, Int.reduceLE, Int.reduceEq, Int.reduceAdd, Int.reduceSub, Int.reduceMul, Int.toNat_natCast, reduceCtorEq, decide_true, decide_false, IntWalk.i64_in, IntWalk.u64_in, IntWalk.u8_in, h0, hm2, h7, h12, h13, h14, ho20, hclo, hv]
    exact ⟨by omega, hkp.seal htg⟩
end Go.Proofs.YthhfjjnhkifbfaaDoor.A
/- Machines of one way out of machines of many: whether a set accepts; calls on what Subsets keeps. -/
namespace Go.Proofs.YthhfjjnhkifbfaaDoor.A
open Go
set_option maxRecDepth 20000
def RAcc (args : List AV) (r : AV) : Prop := ∃ (N S F : Int) (rest : List AV) (l : List Int), l.length ≤ 100000 ∧ args = [.fptr (.int .i64 N :: .int .i64 S :: .int .i64 F :: rest), slI l] ∧ r = .bool (decide (F ∈ l))
theorem RAcc_fn : Fun1 RAcc := by
  rintro args r r' ⟨N, S, F, rest, l, _, rfl, rfl⟩ ⟨N', S', F', rest', l', _, h, rfl⟩
  simp only [List.cons.injEq, AV.fptr.injEq, AV.int.injEq, true_and, and_true] at h
  obtain ⟨⟨_, _, h1, _⟩, h2⟩ := h
  rw [h1, slI_inj h2]
theorem lookAcc (X) : lookedAt (EX md0 X) (fun _ => none) 2 Tryd.f35 = true := by kernel_rfl
theorem acc_ok (N S F : Int) (rest : List AV) (l : List Int) (hl : l.length ≤ 100000) : Ok Tryd.prog 35 [.fptr (.int .i64 N :: .int .i64 S :: .int .i64 F :: rest), slI l] (.bool (decide (F ∈ l))) := by
  refine ok_of_WP (E := EX md0 (fun _ _ => none)) (cr := noR) (tab_nil _) (noR_ok _) mixed (k := l.length + 1) Tryd.func35 (lookAcc _) rfl ?_
  simp only [Tryd.f35, Option.getD_some]
  simp (disch := omega) only [go_sem, ↓IntWalk.iteOmega, IntWalk.toNatUp, Nat.reduceEqDiff, Nat.reduceAdd, Nat.reduceMul, Nat.reduceSub, Nat.reduceLT, Nat.reduceLeDiff, Int.reduceToNat, Int.reduceLT, Int.reduceLE, Int.reduceEq, Int.reduceAdd, Int.reduceSub, Int.reduceMul, Int.toNat_natCast, reduceCtorEq, decide_true, decide_false, IntWalk.i64_in, IntWalk.u64_in, IntWalk.u8_in]
  refine WP_loop (fun m a o nx => ∃ i, i ≤ l.length ∧ m = l.length - i ∧ (∀ x ∈ l.take i, x ≠ F) ∧ a 0 = .fptr (.int .i64 N :: .int .i64 S :: .int .i64 F :: rest) ∧ a 7 = slI l ∧ a 8 = .int .i64 l.length ∧ a 9 = .int .i64 i) l.length (by omega) ⟨0, by omega, by omega, fun x hx => absurd hx (by simp), by simp (disch := omega) only [go_sem, ↓IntWalk.iteOmega, IntWalk.toNatUp, Nat.reduceEqDiff, Nat.reduceAdd, Nat.reduceMul, Nat.reduceSub, Nat.reduceLT, Nat.reduceLeDiff, Int.reduceToNat, Int.reduceLT, Int.reduceLE, Int.reduceEq, Int.reduceAdd, Int.reduceSub, Int.reduceMul, Int.toNat_natCast, reduceCtorEq, decide_true, decide_false, IntWalk.i64_in, IntWalk.u64_in, IntWalk.u8_in], by simp (disch := omega) only [go_sem, ↓IntWalk.iteOmega, IntWalk.toNatUp, Nat.reduceEqDiff, Nat.reduceAdd, Nat.reduceMul, Nat.reduceSub, Nat.reduceLT, Nat.reduceLeDiff, Int.reduceToNat, Int.reduceLT, Int.reduceLE, Int.reduceEq, Int.reduceAdd, Int.reduceSub, Int.reduceMul, Int.toNat_natCast, reduceCtorEq, decide_true, decide_false, IntWalk.i64_in, IntWalk.u64_in, IntWalk.u8_in], by simp (disch := omega) only [go_sem, ↓IntWalk.iteOmega, IntWalk.toNatUp, Nat.reduceEqDiff, Nat.reduceAdd, Nat.reduceMul, Nat.reduceSub, Nat.reduceLT, Nat.reduceLeDiff, Int.reduceToNat, Int.reduceLT, Int.reduceLE, Int.reduceEq, Int.reduceAdd, Int.reduceSub, Int.reduceMul, Int.toNat_natCast, reduceCtorEq, decide_true, decide_false, IntWalk.i64_in, IntWalk.u64_in, IntWalk.u8_in], by simp (disch := omega) only [go_sem, ↓IntWalk.iteOmega, IntWalk.toNatUp, Nat.reduceEqDiff, Nat.reduceAdd, Nat.reduceMul, Nat.reduceSub, Nat.reduceLT, Nat.reduceLeDiff, Int.reduceToNat, Int.reduceLT, Int.reduceLE, Int.reduceEq, Int.reduceAdd, Int.reduceSub, Int.reduceMul, Int.toNat_natCast, reduceCtorEq, decide_true, decide_false, IntWalk.i64_in, IntWalk.u64_in, IntWalk.u8_in]⟩ ?_
  rintro m a o nx ⟨i, hi, rfl, hall, h0, h7, h8, h9⟩
  by_cases hlt : i < l.length
  · have hat := cI_get (s := 1) hlt
    have hmem := getD_mem hlt 0
    have htk := take_succ_getD hlt 0
    generalize l.getD i 0 = x at hat hmem htk
    by_cases hx : x = F
    · rw [decide_eq_true (hx ▸ hmem : F ∈ l)]
      simp (disch := omega) only [go_sem, ↓IntWalk.iteOmega, IntWalk.toNatUp, Nat.reduceEqDiff, Nat.reduceAdd, Nat.reduceMul, Nat.reduceSub, Nat.reduceLT, Nat.reduceLeDiff, Int.reduceToNat, Int.reduceLT, Int.reduceLE, Int.reduceEq, Int.reduceAdd, Int.reduceSub, Int.reduceMul, Int.toNat_natCast, reduceCtorEq, decide_true, decide_false, IntWalk.i64_in, IntWalk.u64_in, IntWalk.u8_in, h0, h7, h8, h9, hat, hx]
    · simp (disch := omega) only [go_sem, ↓IntWalk.iteOmega, IntWalk.toNatUp, Nat.reduceEqDiff, Nat.reduceAdd, Nat.reduceMul, Nat.reduceSub, Nat.reduceLT, Nat.reduceLeDiff, Int.reduceToNat, Int.reduceLT, Int.reduceLE, Int.reduceEq, Int.reduceAdd, Int.reduceSub, Int.reduceMul, Int.toNat_natCast, reduceCtorEq, decide_true, decide_false, IntWalk.i64_in, IntWalk.u64_in, IntWalk.u8_in, h0, h7, h8, h9, hat, hx]
      refine ⟨_, by omega, i + 1, by omega, rfl, fun y hy => ?_, rfl⟩
      rw [htk] at hy
      rcases List.mem_append.1 hy with hy | hy
      · exact hall y hy
      · rw [List.mem_singleton.1 hy]; exact hx
  · have hie : i = l.length := by omega
    subst hie
    rw [List.take_length] at hall
    rw [decide_eq_false (fun h => hall F h rfl)]
    simp (disch := omega) only [go_sem, ↓IntWalk.iteOmega, IntWalk.toNatUp, Nat.reduceEqDiff, Nat.reduceAdd, Nat.reduceMul, Nat.reduceSub, Nat.reduceLT, Nat.reduceLeDiff, Int.reduceToNat, Int.reduceLT, Int.reduceLE, Int.reduceEq, Int.reduceAdd, Int.reduceSub, Int.reduceMul, Int.toNat_natCast, reduceCtorEq, decide_true, decide_false, IntWalk.i64_in, IntWalk.u64_in, IntWalk.u8_in, h0, h7, h8, h9]
theorem RAcc_ok (args r) (h : RAcc args r) : Ok Tryd.prog 35 args r := by
  obtain ⟨N, S, F, rest, l, h1, rfl, rfl⟩ := h
  exact acc_ok N S F rest l h1
theorem runP_call {E : Env} {cr : CallR} {k : Nat} {nz : Nat → Option (List (Nat × Nat))} {fn : Func} {c : Code} {args : List AV} {o : Ob} {nx : Nat} {K : AV × AH → Prop} (hb : fn.body = some c)
    (h : WP E cr k nz c (begin_ args) o nx (fun u a o' nx' => (u = .normal ∨ u = .ret) ∧ wO (resultsL E.P a ⟨o', nx'⟩ fn.results.toList) (fun vs => K (tup1 vs, ⟨o', nx'⟩)))) : wO (Option.map (fun p => freezeR false p.1 p.2) (runP E cr k nz fn args ⟨o, nx⟩)) K := by
  obtain ⟨v, H', h1, h2⟩ := runPR_of_WP (Post := fun v o' nx' => K (v, ⟨o', nx'⟩)) hb h
  rw [h1]
  exact h2
noncomputable def crSub : CallR := tabLookR [(32, fun args H => if args.length = 2 then runP (EX md0 XNm) noR 0 (fun _ => none) Tryd.f32 args H else none), (34, fun args H => if args.length = 3 then runP (EX md0 XClo) noR 1001 (fun _ => none) Tryd.f34 args H else none)]
theorem crSub_ok : CRSound Tryd.prog crSub ∧ Up crSub := by
  refine tabR_cons (tabR_cons (tabR_nil _) fun args H v H' h => ?_) fun args H v H' h => ?_
  · split at h
    · rename_i hn
      exact okR_run (E := EX md0 XClo) XClo_ok (noR_ok Tryd.prog).1 (noR_ok Tryd.prog).2 mixed Tryd.func34 (by rw [hn]; exact lookBy XClo) h
    · cases h
  · split at h
    · rename_i hn
      exact okR_run (E := EX md0 XNm) XNm_ok (noR_ok Tryd.prog).1 (noR_ok Tryd.prog).2 mixed Tryd.func32 (by rw [hn]; exact lookMet XNm) h
    · cases h
theorem met_call {o : Ob} {nx : Nat} {N : Nat} {S F : Int} {ss fs lr} {L : List (List Bool)} {K : AV × AH → Prop} (hN : N ≤ 1000) (h : SubAt o nx N S F ss fs lr L) (hL : ∀ b ∈ L, b.length = N) (hLn : L.length ≤ 100000) {t : List Bool} (ht : t.length = N)
    (hK : ∀ o' nx', nx ≤ nx' → SubAt o' nx' N S F ss fs lr (metS L t) → SKeep nx o o' → K (.int .i64 (L.idxOf t : Int), ⟨o', nx'⟩)) : wO (Option.map (fun p => freezeR false p.1 p.2) (crSub 32 [subP, slI (idxs t)] ⟨o, nx⟩)) K := by
  refine runP_call (E := EX md0 XNm) (fn := Tryd.f32) rfl (WP_mono (met_wp hN h hL hLn ht) ?_)
  rintro u a o' nx' ⟨rfl, h4, h1, h2, h3⟩
  refine ⟨.inr rfl, ?_⟩
  simp only [Tryd.f32]
  simp (disch := omega) only [go_sem, ↓IntWalk.iteOmega, IntWalk.toNatUp, Nat.reduceEqDiff, Nat.reduceAdd, Nat.reduceMul, Nat.reduceSub, Nat.reduceLT, Nat.reduceLeDiff, Int.reduceToNat, Int.reduceLT, Int.reduceLE, Int.reduceEq, Int.reduceAdd, Int.reduceSub, Int.reduceMul, Int.toNat_natCast, reduceCtorEq, decide_true, decide_false, IntWalk.i64_in, IntWalk.u64_in, IntWalk.u8_in, h4]
  exact hK o' nx' h1 h2 h3
theorem by_call {o : Ob} {nx : Nat} {N : Nat} {S F : Int} {ss fs} {L : List (List Bool)} {K : AV × AH → Prop} (hN : N ≤ 1000) (hw : Wf N S F ss fs) (hss : ss.length ≤ 1000) (h : SubAt o nx N S F ss fs (leadsOf N ss) L) {b : List Bool} (hb : b.length = N) {q : Nat} {g : Tag} (hq : q < nx) (hrow : o (q, 34) = some (.row ⟨3, 1, g, false, true, cI (idxs b)⟩)) {m : Int} (hm : 0 ≤ m ∧ m < 5)
    (hK : ∀ o' nx', nx ≤ nx' → BKeep40 nx o o' → K (slI (idxs (stepB N (rowsOf N fs) ss b m)), ⟨o', nx'⟩)) : wO (Option.map (fun p => freezeR false p.1 p.2) (crSub 34 [subP, .ref (q, 34) g 0 (idxs b).length, .int .i64 m] ⟨o, nx⟩)) K := by
  refine runP_call (E := EX md0 XClo) (fn := Tryd.f34) rfl (WP_mono (by_wp hN hw hss h hb hq hrow hm (by omega)) ?_)
  rintro u a o' nx' ⟨rfl, h6, h1, h2⟩
  refine ⟨.inr rfl, ?_⟩
  simp only [Tryd.f34]
  simp (disch := omega) only [go_sem, ↓IntWalk.iteOmega, IntWalk.toNatUp, Nat.reduceEqDiff, Nat.reduceAdd, Nat.reduceMul, Nat.reduceSub, Nat.reduceLT, Nat.reduceLeDiff, Int.reduceToNat, Int.reduceLT, Int.reduceLE, Int.reduceEq, Int.reduceAdd, Int.reduceSub, Int.reduceMul, Int.toNat_natCast, reduceCtorEq, decide_true, decide_false, IntWalk.i64_in, IntWalk.u64_in, IntWalk.u8_in, h6]
  exact hK o' nx' h1 h2
end Go.Proofs.YthhfjjnhkifbfaaDoor.A
/- A world whose listed variables are laid; what a tied card asks. -/
namespace Go.Proofs.YthhfjjnhkifbfaaDoor
open Go Go.Proofs.YthhfjjnhkifbfaaDoor.A
set_option maxRecDepth 100000
abbrev laidL : List (String × DataW Unit) := [("math/bits.deBruijn32tab", Rows.laid_math_bits_deBruijn32tab), ("math/bits.deBruijn64tab", Rows.laid_math_bits_deBruijn64tab), ("internal/strconv.uint64pow10", Rows.laid_internal_strconv_uint64pow10)]
theorem laidL_noh : (laidL.filter fun x => x.2.handleName?.isSome) = [] := by kernel_rfl
noncomputable def laidWorld (os : Os) : World :=
  layW (layW (layW (World.holding Tryd.prog os ⟨#[], #[], []⟩) ((Tryd.prog.globalNamed "internal/strconv.uint64pow10").getD 0) (laidCells Rows.laid_internal_strconv_uint64pow10)) ((Tryd.prog.globalNamed "math/bits.deBruijn32tab").getD 0) (laidCells Rows.laid_math_bits_deBruijn32tab)) ((Tryd.prog.globalNamed "math/bits.deBruijn64tab").getD 0) (laidCells Rows.laid_math_bits_deBruijn64tab)
theorem laidWorld_met (os : Os) (args : Array Value) : laidMetH Tryd.prog laidL ((laidWorld os).forCall (fun _ _ => 0) ⟨#[], args, []⟩).memory := by
  rw [laidMetH_plain laidL_noh]
  exact laidMet_of_run' 80 (by kernel_rfl) (by kernel_rfl)
theorem laid_gl (W : World) (h : laidMetH Tryd.prog laidL W) : Gl (Old W) W := by
  rw [laidMetH_plain laidL_noh] at h
  obtain ⟨ps, hv, _⟩ := h
  obtain ⟨g, t, cs, fuel, p, h1, h2, h3, h4⟩ := laidVars_at (n := "internal/strconv.uint64pow10") (d := Lib.tabData .u64 Lib.pow10Tab) hv (List.mem_cons_of_mem _ (List.mem_cons_of_mem _ (by rw [show (Lib.tabData .u64 Lib.pow10Tab : DataW Unit) = Rows.laid_internal_strconv_uint64pow10 by kernel_rfl]; exact List.mem_cons_self ..)))
  obtain ⟨ty, m, hh⟩ := var_heap h1 h3
  obtain rfl : 0 = g := Option.some.inj ((show Tryd.prog.globalNamed "internal/strconv.uint64pow10" = some 0 by kernel_rfl).symm.trans h1)
  obtain rfl : 121 = t := Option.some.inj ((show (Tryd.prog.globals[0]?).map (·.type) = some 121 by kernel_rfl).symm.trans h2)
  have hc := Lib.cells_of_tab (e := 113) (n := 20) (by kernel_rfl) (by kernel_rfl) (by kernel_rfl) (by kernel_rfl) h4
  intro x hx
  obtain rfl : x = (0, Lib.pow10Tab.map fun z => Value.int .u64 z) := List.mem_singleton.1 hx
  refine ⟨(Array.getElem?_eq_some_iff.1 hh).1, ty, m, ?_⟩
  rw [hh, ← hc]
theorem wants_all {P : Program} {l : Array TypeId} (h : (l.toList.all fun t => !P.wantsStandIn t) = true) {j : Nat} {t : TypeId} (ht : l[j]? = some t) : P.wantsStandIn t = false := by
  have := List.all_eq_true.1 h t (by
    rw [← Array.getElem?_toList] at ht
    exact List.mem_of_getElem? ht)
  simpa using this
end Go.Proofs.YthhfjjnhkifbfaaDoor
/- Machines of one way: state, Go, Run. -/
namespace Go.Proofs.YthhfjjnhkifbfaaDoor.A
open Go
set_option maxRecDepth 20000
/-- A machine of n states: where they lead, five by five; whether they accept. -/
abbrev dfaV (n : Nat) (N : List Int) (A : List Bool) : AV := .agg [.sl n (cI N), slB A]
theorem dfaV_inj {n n' : Nat} {N N' : List Int} {A A' : List Bool} (h : dfaV n N A = dfaV n' N' A') : n = n' ∧ N = N' ∧ A = A' := by
  injection h with h
  simp only [List.cons.injEq, AV.sl.injEq, and_true] at h
  exact ⟨h.1.1, cI_inj h.1.2, cB_inj h.2.2⟩
def goD (N : List Int) : Int → List Int → Int
  | s, [] => s
  | s, m :: w => if m < 0 ∨ 5 ≤ m then -1 else goD N (N.getD (s.toNat * 5 + m.toNat) 0) w
def goFull (n : Nat) (N : List Int) (s : Int) (w : List Int) : Int := if 0 ≤ s ∧ s < (n : Int) then goD N s w else -1
def runD (n : Nat) (N : List Int) (A : List Bool) (w : List Int) : Bool := if 0 ≤ goFull n N 0 w then A.getD (goFull n N 0 w).toNat false else false
structure WfD (n : Nat) (N : List Int) (A : List Bool) : Prop where
  sz : 1 ≤ n ∧ n ≤ 2000
  l : N.length = 5 * n
  a : A.length = n
  e : ∀ x ∈ N, 0 ≤ x ∧ x < (n : Int)
theorem WfD.get {n N A} (h : WfD n N A) {k : Nat} (hk : k < 5 * n) : 0 ≤ N.getD k 0 ∧ N.getD k 0 < (n : Int) := by
  have hk' : k < N.length := by rw [h.l]; exact hk
  rw [List.getD_eq_getElem?_getD, List.getElem?_eq_getElem hk']
  exact h.e _ (List.getElem_mem ..)
theorem goD_in {n N A} (h : WfD n N A) : ∀ (w : List Int) (s : Int), 0 ≤ s → s < (n : Int) → -1 ≤ goD N s w ∧ goD N s w < (n : Int)
  | [], s, h1, h2 => by rw [goD]; omega
  | m :: w, s, h1, h2 => by
    rw [goD]
    by_cases hm : m < 0 ∨ 5 ≤ m
    · rw [if_pos hm]; omega
    · rw [if_neg hm]
      have := h.get (k := s.toNat * 5 + m.toNat) (by omega)
      exact goD_in h w _ this.1 this.2
theorem goD_cut (N : List Int) : ∀ (w : List Int) (i : Nat) (s : Int), i ≤ w.length → (∀ x ∈ w.take i, 0 ≤ x ∧ x < 5) → goD N s w = goD N (goD N s (w.take i)) (w.drop i)
  | w, 0, s, _, _ => by rw [List.take_zero, List.drop_zero, goD]
  | [], i + 1, s, h, _ => by simp at h
  | m :: w, i + 1, s, h, hx => by
    have hm := hx m (by simp)
    rw [List.take_succ_cons, List.drop_succ_cons, goD, goD, if_neg (by omega), if_neg (by omega)]
    exact goD_cut N w i _ (by simpa using h) (fun x hx' => hx x (by rw [List.take_succ_cons]; exact List.mem_cons_of_mem _ hx'))
def RStD (args : List AV) (r : AV) : Prop := ∃ (n : Nat) (N : List Int) (A : List Bool) (s : Int), args = [dfaV n N A, .int .i64 s] ∧ r = .bool (decide (0 ≤ s ∧ s < (n : Int)))
theorem RStD_fn : Fun1 RStD := by
  rintro args r r' ⟨n, N, A, s, rfl, rfl⟩ ⟨n', N', A', s', h, rfl⟩
  simp only [List.cons.injEq, AV.int.injEq, true_and, and_true] at h
  rw [(dfaV_inj h.1).1, h.2]
theorem lookStD (X) : lookedAt (EX md0 X) (fun _ => none) 2 Tryd.f29 = true := by kernel_rfl
theorem RStD_ok (args r) (h : RStD args r) : Ok Tryd.prog 29 args r := by
  obtain ⟨n, N, A, s, rfl, rfl⟩ := h
  refine ok_of_WP (E := EX md0 (fun _ _ => none)) (cr := noR) (tab_nil _) (noR_ok _) mixed (k := 0) Tryd.func29 (lookStD _) rfl ?_
  simp only [Tryd.f29, Option.getD_some]
  by_cases h1 : 0 ≤ s
  · by_cases h2 : s < (n : Int)
    · rw [decide_eq_true ⟨h1, h2⟩]
      simp (disch := omega) only [go_sem, ↓IntWalk.iteOmega, IntWalk.toNatUp, Nat.reduceEqDiff, Nat.reduceAdd, Nat.reduceMul, Nat.reduceSub, Nat.reduceLT, Nat.reduceLeDiff, Int.reduceToNat, Int.reduceLT, Int.reduceLE, Int.reduceEq, Int.reduceAdd, Int.reduceSub, Int.reduceMul, Int.toNat_natCast, reduceCtorEq, decide_true, decide_false, IntWalk.i64_in, IntWalk.u64_in, IntWalk.u8_in, h1, h2]
    · rw [decide_eq_false (fun h => h2 h.2)]
      simp (disch := omega) only [go_sem, ↓IntWalk.iteOmega, IntWalk.toNatUp, Nat.reduceEqDiff, Nat.reduceAdd, Nat.reduceMul, Nat.reduceSub, Nat.reduceLT, Nat.reduceLeDiff, Int.reduceToNat, Int.reduceLT, Int.reduceLE, Int.reduceEq, Int.reduceAdd, Int.reduceSub, Int.reduceMul, Int.toNat_natCast, reduceCtorEq, decide_true, decide_false, IntWalk.i64_in, IntWalk.u64_in, IntWalk.u8_in, h1, h2]
  · rw [decide_eq_false (fun h => h1 h.1)]
    simp (disch := omega) only [go_sem, ↓IntWalk.iteOmega, IntWalk.toNatUp, Nat.reduceEqDiff, Nat.reduceAdd, Nat.reduceMul, Nat.reduceSub, Nat.reduceLT, Nat.reduceLeDiff, Int.reduceToNat, Int.reduceLT, Int.reduceLE, Int.reduceEq, Int.reduceAdd, Int.reduceSub, Int.reduceMul, Int.toNat_natCast, reduceCtorEq, decide_true, decide_false, IntWalk.i64_in, IntWalk.u64_in, IntWalk.u8_in, h1]
noncomputable def XStD : FuncId → List AV → Option AV := tabLook [(29, tRel RStD)]
theorem XStD_ok : CPSound Tryd.prog XStD := tab_cons (tab_nil _) (tRel_ok RStD_ok)
theorem XStD_eq (n : Nat) (N : List Int) (A : List Bool) (s : Int) : XStD 29 [dfaV n N A, .int .i64 s] = some (.bool (decide (0 ≤ s ∧ s < (n : Int)))) := tRel_eq RStD_fn ⟨n, N, A, s, rfl, rfl⟩
theorem lookGoD : lookedAt (EX md0 XStD) (fun _ => none) 3 Tryd.f16 = true := by kernel_rfl
theorem lookGoR (X) : lookedAt (EX md0 X) (fun _ => none) 3 Tryd.f17 = true := by kernel_rfl
theorem go_drop {N : List Int} {w : List Int} {i : Nat} (h : i < w.length) (s : Int) : goD N s (w.drop i) = if w.getD i 0 < 0 ∨ 5 ≤ w.getD i 0 then -1 else goD N (N.getD (s.toNat * 5 + (w.getD i 0).toNat) 0) (w.drop (i + 1)) := by
  have e : w.getD i 0 = w[i] := by simp [List.getD, h]
  rw [List.drop_eq_getElem_cons h, goD, e]
theorem dgo_ok {n : Nat} {N : List Int} {A : List Bool} (hw : WfD n N A) (s : Int) (w : List Int) (hl : w.length ≤ 1000000) : Ok Tryd.prog 16 [dfaV n N A, .int .i64 s, slI w] (.int .i64 (goFull n N s w)) := by
  refine ok_of_WP (E := EX md0 XStD) (cr := noR) XStD_ok (noR_ok _) mixed (k := 1000002) Tryd.func16 lookGoD rfl ?_
  have hst := XStD_eq n N A s
  have hn := hw.sz
  have hN := hw.l
  simp only [Tryd.f16, Option.getD_some]
  unfold goFull
  by_cases hs : 0 ≤ s ∧ s < (n : Int)
  · rw [if_pos hs]
    rw [decide_eq_true hs] at hst
    simp (disch := omega) only [go_sem, ↓IntWalk.iteOmega, IntWalk.toNatUp, Nat.reduceEqDiff, Nat.reduceAdd, Nat.reduceMul, Nat.reduceSub, Nat.reduceLT, Nat.reduceLeDiff, Int.reduceToNat, Int.reduceLT, Int.reduceLE, Int.reduceEq, Int.reduceAdd, Int.reduceSub, Int.reduceMul, Int.toNat_natCast, reduceCtorEq, decide_true, decide_false, IntWalk.i64_in, IntWalk.u64_in, IntWalk.u8_in, hst]
    refine WP_loop (fun m a o nx => ∃ (i : Nat) (s' : Int), i ≤ w.length ∧ m = w.length - i ∧ 0 ≤ s' ∧ s' < (n : Int) ∧ goD N s w = goD N s' (w.drop i) ∧ a 1 = .int .i64 s' ∧ a 3 = .ptr (0, 3) (0, 3) 0 ∧ a 13 = slI w ∧ a 14 = .int .i64 w.length ∧ a 15 = .int .i64 i ∧ o (0, 3) = some (.row ⟨25, 1, (0, 3), false, true, [.sl n (cI N), slB A]⟩)) w.length (by omega) ⟨0, s, by omega, by omega, hs.1, hs.2, rfl, by simp (disch := omega) only [go_sem, ↓IntWalk.iteOmega, IntWalk.toNatUp, Nat.reduceEqDiff, Nat.reduceAdd, Nat.reduceMul, Nat.reduceSub, Nat.reduceLT, Nat.reduceLeDiff, Int.reduceToNat, Int.reduceLT, Int.reduceLE, Int.reduceEq, Int.reduceAdd, Int.reduceSub, Int.reduceMul, Int.toNat_natCast, reduceCtorEq, decide_true, decide_false, IntWalk.i64_in, IntWalk.u64_in, IntWalk.u8_in], by simp (disch := omega) only [go_sem, ↓IntWalk.iteOmega, IntWalk.toNatUp, Nat.reduceEqDiff, Nat.reduceAdd, Nat.reduceMul, Nat.reduceSub, Nat.reduceLT, Nat.reduceLeDiff, Int.reduceToNat, Int.reduceLT, Int.reduceLE, Int.reduceEq, Int.reduceAdd, Int.reduceSub, Int.reduceMul, Int.toNat_natCast, reduceCtorEq, decide_true, decide_false, IntWalk.i64_in, IntWalk.u64_in, IntWalk.u8_in], by simp (disch := omega) only [go_sem, ↓IntWalk.iteOmega, IntWalk.toNatUp, Nat.reduceEqDiff, Nat.reduceAdd, Nat.reduceMul, Nat.reduceSub, Nat.reduceLT, Nat.reduceLeDiff, Int.reduceToNat, Int.reduceLT, Int.reduceLE, Int.reduceEq, Int.reduceAdd, Int.reduceSub, Int.reduceMul, Int.toNat_natCast, reduceCtorEq, decide_true, decide_false, IntWalk.i64_in, IntWalk.u64_in, IntWalk.u8_in], by simp (disch := omega) only [go_sem, ↓IntWalk.iteOmega, IntWalk.toNatUp, Nat.reduceEqDiff, Nat.reduceAdd, Nat.reduceMul, Nat.reduceSub, Nat.reduceLT, Nat.reduceLeDiff, Int.reduceToNat, Int.reduceLT, Int.reduceLE, Int.reduceEq, Int.reduceAdd, Int.reduceSub, Int.reduceMul, Int.toNat_natCast, reduceCtorEq, decide_true, decide_false, IntWalk.i64_in, IntWalk.u64_in, IntWalk.u8_in], by simp (disch := omega) only [go_sem, ↓IntWalk.iteOmega, IntWalk.toNatUp, Nat.reduceEqDiff, Nat.reduceAdd, Nat.reduceMul, Nat.reduceSub, Nat.reduceLT, Nat.reduceLeDiff, Int.reduceToNat, Int.reduceLT, Int.reduceLE, Int.reduceEq, Int.reduceAdd, Int.reduceSub, Int.reduceMul, Int.toNat_natCast, reduceCtorEq, decide_true, decide_false, IntWalk.i64_in, IntWalk.u64_in, IntWalk.u8_in], by simp [upd_app]⟩ ?_
    rintro m a o nx ⟨i, s', hi, rfl, hs1, hs2, hgo, h1, h3, h13, h14, h15, o3⟩
    by_cases hlt : i < w.length
    · have hg := cI_get (s := 1) hlt
      rw [go_drop hlt] at hgo
      obtain ⟨x, hx⟩ : ∃ x, x = w.getD i 0 := ⟨_, rfl⟩
      rw [← hx] at hg hgo
      by_cases hx0 : x < 0
      · rw [if_pos (.inl hx0)] at hgo
        simp (disch := omega) only [go_sem, ↓IntWalk.iteOmega, IntWalk.toNatUp, Nat.reduceEqDiff, Nat.reduceAdd, Nat.reduceMul, Nat.reduceSub, Nat.reduceLT, Nat.reduceLeDiff, Int.reduceToNat, Int.reduceLT, Int.reduceLE, Int.reduceEq, Int.reduceAdd, Int.reduceSub, Int.reduceMul, Int.toNat_natCast, reduceCtorEq, decide_true, decide_false, IntWalk.i64_in, IntWalk.u64_in, IntWalk.u8_in, h1, h3, h13, h14, h15, o3, hg, hx0]
        rw [hgo]
      · by_cases hx5 : 5 ≤ x
        · rw [if_pos (.inr hx5)] at hgo
          simp (disch := omega) only [go_sem, ↓IntWalk.iteOmega, IntWalk.toNatUp, Nat.reduceEqDiff, Nat.reduceAdd, Nat.reduceMul, Nat.reduceSub, Nat.reduceLT, Nat.reduceLeDiff, Int.reduceToNat, Int.reduceLT, Int.reduceLE, Int.reduceEq, Int.reduceAdd, Int.reduceSub, Int.reduceMul, Int.toNat_natCast, reduceCtorEq, decide_true, decide_false, IntWalk.i64_in, IntWalk.u64_in, IntWalk.u8_in, h1, h3, h13, h14, h15, o3, hg, hx0, hx5]
          rw [hgo]
        · rw [if_neg (by omega)] at hgo
          have hk : s'.toNat * 5 + x.toNat < N.length := by omega
          have hat : take1 false 1 (((cI N).drop (s'.toNat * 5)).drop x.toNat) = some (.int .i64 (N.getD (s'.toNat * 5 + x.toNat) 0)) := by
            rw [List.drop_drop]; exact cI_get hk
          have hin := hw.get (k := s'.toNat * 5 + x.toNat) (by omega)
          simp (disch := omega) only [go_sem, ↓IntWalk.iteOmega, IntWalk.toNatUp, Nat.reduceEqDiff, Nat.reduceAdd, Nat.reduceMul, Nat.reduceSub, Nat.reduceLT, Nat.reduceLeDiff, Int.reduceToNat, Int.reduceLT, Int.reduceLE, Int.reduceEq, Int.reduceAdd, Int.reduceSub, Int.reduceMul, Int.toNat_natCast, reduceCtorEq, decide_true, decide_false, IntWalk.i64_in, IntWalk.u64_in, IntWalk.u8_in, h1, h3, h13, h14, h15, o3, hg, hx0, hx5, hat]
          exact ⟨_, by omega, i + 1, _, by omega, rfl, hin.1, hin.2, hgo, rfl, rfl⟩
    · rw [List.drop_of_length_le (by omega), goD] at hgo
      simp (disch := omega) only [go_sem, ↓IntWalk.iteOmega, IntWalk.toNatUp, Nat.reduceEqDiff, Nat.reduceAdd, Nat.reduceMul, Nat.reduceSub, Nat.reduceLT, Nat.reduceLeDiff, Int.reduceToNat, Int.reduceLT, Int.reduceLE, Int.reduceEq, Int.reduceAdd, Int.reduceSub, Int.reduceMul, Int.toNat_natCast, reduceCtorEq, decide_true, decide_false, IntWalk.i64_in, IntWalk.u64_in, IntWalk.u8_in, h1, h3, h13, h14, h15, o3]
      rw [hgo]
  · rw [if_neg hs]
    rw [decide_eq_false hs] at hst
    simp (disch := omega) only [go_sem, ↓IntWalk.iteOmega, IntWalk.toNatUp, Nat.reduceEqDiff, Nat.reduceAdd, Nat.reduceMul, Nat.reduceSub, Nat.reduceLT, Nat.reduceLeDiff, Int.reduceToNat, Int.reduceLT, Int.reduceLE, Int.reduceEq, Int.reduceAdd, Int.reduceSub, Int.reduceMul, Int.toNat_natCast, reduceCtorEq, decide_true, decide_false, IntWalk.i64_in, IntWalk.u64_in, IntWalk.u8_in, hst]
theorem rgo_ok {n : Nat} {N : List Int} {A : List Bool} (hw : WfD n N A) (s : Int) (w : List Int) (hl : w.length ≤ 1000000) : Ok Tryd.prog 17 [dfaV n N A, .int .i64 s, slI w] (.int .i64 (goFull n N s w)) := by
  refine ok_of_WP (E := EX md0 (fun _ _ => none)) (cr := noR) (tab_nil _) (noR_ok _) mixed (k := 1000002) Tryd.func17 (lookGoR _) rfl ?_
  have hn := hw.sz
  have hN := hw.l
  simp only [Tryd.f17, Option.getD_some]
  unfold goFull
  by_cases hs0 : s < 0
  · rw [if_neg (by omega)]
    simp (disch := omega) only [go_sem, ↓IntWalk.iteOmega, IntWalk.toNatUp, Nat.reduceEqDiff, Nat.reduceAdd, Nat.reduceMul, Nat.reduceSub, Nat.reduceLT, Nat.reduceLeDiff, Int.reduceToNat, Int.reduceLT, Int.reduceLE, Int.reduceEq, Int.reduceAdd, Int.reduceSub, Int.reduceMul, Int.toNat_natCast, reduceCtorEq, decide_true, decide_false, IntWalk.i64_in, IntWalk.u64_in, IntWalk.u8_in, hs0]
  by_cases hsn : (n : Int) ≤ s
  · rw [if_neg (by omega)]
    simp (disch := omega) only [go_sem, ↓IntWalk.iteOmega, IntWalk.toNatUp, Nat.reduceEqDiff, Nat.reduceAdd, Nat.reduceMul, Nat.reduceSub, Nat.reduceLT, Nat.reduceLeDiff, Int.reduceToNat, Int.reduceLT, Int.reduceLE, Int.reduceEq, Int.reduceAdd, Int.reduceSub, Int.reduceMul, Int.toNat_natCast, reduceCtorEq, decide_true, decide_false, IntWalk.i64_in, IntWalk.u64_in, IntWalk.u8_in, hs0, hsn]
  rw [if_pos (by omega)]
  simp (disch := omega) only [go_sem, ↓IntWalk.iteOmega, IntWalk.toNatUp, Nat.reduceEqDiff, Nat.reduceAdd, Nat.reduceMul, Nat.reduceSub, Nat.reduceLT, Nat.reduceLeDiff, Int.reduceToNat, Int.reduceLT, Int.reduceLE, Int.reduceEq, Int.reduceAdd, Int.reduceSub, Int.reduceMul, Int.toNat_natCast, reduceCtorEq, decide_true, decide_false, IntWalk.i64_in, IntWalk.u64_in, IntWalk.u8_in, hs0, hsn]
  refine WP_loop (fun m a o nx => ∃ (i : Nat) (s' : Int), i ≤ w.length ∧ m = w.length - i ∧ 0 ≤ s' ∧ s' < (n : Int) ∧ goD N s w = goD N s' (w.drop i) ∧ a 1 = .int .i64 s' ∧ a 2 = slI w ∧ a 3 = .ptr (0, 3) (0, 3) 0 ∧ a 7 = .int .i64 i ∧ o (0, 3) = some (.row ⟨25, 1, (0, 3), false, true, [.sl n (cI N), slB A]⟩)) w.length (by omega) ⟨0, s, by omega, by omega, by omega, by omega, rfl, by simp (disch := omega) only [go_sem, ↓IntWalk.iteOmega, IntWalk.toNatUp, Nat.reduceEqDiff, Nat.reduceAdd, Nat.reduceMul, Nat.reduceSub, Nat.reduceLT, Nat.reduceLeDiff, Int.reduceToNat, Int.reduceLT, Int.reduceLE, Int.reduceEq, Int.reduceAdd, Int.reduceSub, Int.reduceMul, Int.toNat_natCast, reduceCtorEq, decide_true, decide_false, IntWalk.i64_in, IntWalk.u64_in, IntWalk.u8_in], by simp (disch := omega) only [go_sem, ↓IntWalk.iteOmega, IntWalk.toNatUp, Nat.reduceEqDiff, Nat.reduceAdd, Nat.reduceMul, Nat.reduceSub, Nat.reduceLT, Nat.reduceLeDiff, Int.reduceToNat, Int.reduceLT, Int.reduceLE, Int.reduceEq, Int.reduceAdd, Int.reduceSub, Int.reduceMul, Int.toNat_natCast, reduceCtorEq, decide_true, decide_false, IntWalk.i64_in, IntWalk.u64_in, IntWalk.u8_in], by simp (disch := omega) only [go_sem, ↓IntWalk.iteOmega, IntWalk.toNatUp, Nat.reduceEqDiff, Nat.reduceAdd, Nat.reduceMul, Nat.reduceSub, Nat.reduceLT, Nat.reduceLeDiff, Int.reduceToNat, Int.reduceLT, Int.reduceLE, Int.reduceEq, Int.reduceAdd, Int.reduceSub, Int.reduceMul, Int.toNat_natCast, reduceCtorEq, decide_true, decide_false, IntWalk.i64_in, IntWalk.u64_in, IntWalk.u8_in], by simp (disch := omega) only [go_sem, ↓IntWalk.iteOmega, IntWalk.toNatUp, Nat.reduceEqDiff, Nat.reduceAdd, Nat.reduceMul, Nat.reduceSub, Nat.reduceLT, Nat.reduceLeDiff, Int.reduceToNat, Int.reduceLT, Int.reduceLE, Int.reduceEq, Int.reduceAdd, Int.reduceSub, Int.reduceMul, Int.toNat_natCast, reduceCtorEq, decide_true, decide_false, IntWalk.i64_in, IntWalk.u64_in, IntWalk.u8_in], by simp [upd_app]⟩ ?_
  rintro m a o nx ⟨i, s', hi, rfl, hs1, hs2, hgo, h1, h2, h3, h7, o3⟩
  by_cases hlt : i < w.length
  · have hg := cI_get (s := 1) hlt
    rw [go_drop hlt] at hgo
    obtain ⟨x, hx⟩ : ∃ x, x = w.getD i 0 := ⟨_, rfl⟩
    rw [← hx] at hg hgo
    by_cases hx0 : x < 0
    · rw [if_pos (.inl hx0)] at hgo
      simp (disch := omega) only [go_sem, ↓IntWalk.iteOmega, IntWalk.toNatUp, Nat.reduceEqDiff, Nat.reduceAdd, Nat.reduceMul, Nat.reduceSub, Nat.reduceLT, Nat.reduceLeDiff, Int.reduceToNat, Int.reduceLT, Int.reduceLE, Int.reduceEq, Int.reduceAdd, Int.reduceSub, Int.reduceMul, Int.toNat_natCast, reduceCtorEq, decide_true, decide_false, IntWalk.i64_in, IntWalk.u64_in, IntWalk.u8_in, h1, h2, h3, h7, o3, hg, hx0]
      rw [hgo]
    · by_cases hx5 : 5 ≤ x
      · rw [if_pos (.inr hx5)] at hgo
        simp (disch := omega) only [go_sem, ↓IntWalk.iteOmega, IntWalk.toNatUp, Nat.reduceEqDiff, Nat.reduceAdd, Nat.reduceMul, Nat.reduceSub, Nat.reduceLT, Nat.reduceLeDiff, Int.reduceToNat, Int.reduceLT, Int.reduceLE, Int.reduceEq, Int.reduceAdd, Int.reduceSub, Int.reduceMul, Int.toNat_natCast, reduceCtorEq, decide_true, decide_false, IntWalk.i64_in, IntWalk.u64_in, IntWalk.u8_in, h1, h2, h3, h7, o3, hg, hx0, hx5]
        rw [hgo]
      · rw [if_neg (by omega)] at hgo
        have hk : s'.toNat * 5 + x.toNat < N.length := by omega
        have hat : take1 false 1 (((cI N).drop (s'.toNat * 5)).drop x.toNat) = some (.int .i64 (N.getD (s'.toNat * 5 + x.toNat) 0)) := by
          rw [List.drop_drop]; exact cI_get hk
        have hin := hw.get (k := s'.toNat * 5 + x.toNat) (by omega)
        simp (disch := omega) only [go_sem, ↓IntWalk.iteOmega, IntWalk.toNatUp, Nat.reduceEqDiff, Nat.reduceAdd, Nat.reduceMul, Nat.reduceSub, Nat.reduceLT, Nat.reduceLeDiff, Int.reduceToNat, Int.reduceLT, Int.reduceLE, Int.reduceEq, Int.reduceAdd, Int.reduceSub, Int.reduceMul, Int.toNat_natCast, reduceCtorEq, decide_true, decide_false, IntWalk.i64_in, IntWalk.u64_in, IntWalk.u8_in, h1, h2, h3, h7, o3, hg, hx0, hx5, hat]
        exact ⟨_, by omega, i + 1, _, by omega, rfl, hin.1, hin.2, hgo, rfl, rfl⟩
  · rw [List.drop_of_length_le (by omega), goD] at hgo
    simp (disch := omega) only [go_sem, ↓IntWalk.iteOmega, IntWalk.toNatUp, Nat.reduceEqDiff, Nat.reduceAdd, Nat.reduceMul, Nat.reduceSub, Nat.reduceLT, Nat.reduceLeDiff, Int.reduceToNat, Int.reduceLT, Int.reduceLE, Int.reduceEq, Int.reduceAdd, Int.reduceSub, Int.reduceMul, Int.toNat_natCast, reduceCtorEq, decide_true, decide_false, IntWalk.i64_in, IntWalk.u64_in, IntWalk.u8_in, h1, h2, h3, h7, o3]
    rw [hgo]
end Go.Proofs.YthhfjjnhkifbfaaDoor.A
/- Machines of one way: Run, Check. -/
namespace Go.Proofs.YthhfjjnhkifbfaaDoor.A
open Go
set_option maxRecDepth 20000
def RGoD (args : List AV) (r : AV) : Prop := ∃ (n : Nat) (N : List Int) (A : List Bool) (s : Int) (w : List Int), WfD n N A ∧ w.length ≤ 1000000 ∧ args = [dfaV n N A, .int .i64 s, slI w] ∧ r = .int .i64 (goFull n N s w)
theorem RGoD_fn : Fun1 RGoD := by
  rintro args r r' ⟨n, N, A, s, w, _, _, rfl, rfl⟩ ⟨n', N', A', s', w', _, _, h, rfl⟩
  simp only [List.cons.injEq, AV.int.injEq, true_and, and_true] at h
  obtain ⟨h1, h2, h3⟩ := dfaV_inj h.1
  rw [h1, h2, h.2.1, slI_inj h.2.2]
theorem RGoD_dfa (args r) (h : RGoD args r) : Ok Tryd.prog 16 args r := by obtain ⟨n, N, A, s, w, h1, h2, rfl, rfl⟩ := h; exact dgo_ok h1 s w h2
theorem RGoD_ref (args r) (h : RGoD args r) : Ok Tryd.prog 17 args r := by obtain ⟨n, N, A, s, w, h1, h2, rfl, rfl⟩ := h; exact rgo_ok h1 s w h2
noncomputable def XGoD : FuncId → List AV → Option AV := tabLook [(16, tRel RGoD), (17, tRel RGoD)]
theorem XGoD_ok : CPSound Tryd.prog XGoD := tab_cons (tab_cons (tab_nil _) (tRel_ok RGoD_ref)) (tRel_ok RGoD_dfa)
theorem XGoD_dfa {n : Nat} {N : List Int} {A : List Bool} (h : WfD n N A) (s : Int) (w : List Int) (hl : w.length ≤ 1000000) : XGoD 16 [dfaV n N A, .int .i64 s, slI w] = some (.int .i64 (goFull n N s w)) := tRel_eq (R := RGoD) RGoD_fn ⟨_, _, _, _, _, h, hl, rfl, rfl⟩
theorem XGoD_ref {n : Nat} {N : List Int} {A : List Bool} (h : WfD n N A) (s : Int) (w : List Int) (hl : w.length ≤ 1000000) : XGoD 17 [dfaV n N A, .int .i64 s, slI w] = some (.int .i64 (goFull n N s w)) := tRel_eq (R := RGoD) RGoD_fn ⟨_, _, _, _, _, h, hl, rfl, rfl⟩
theorem goFull_in {n N A} (h : WfD n N A) (s : Int) (w : List Int) : -1 ≤ goFull n N s w ∧ goFull n N s w < (n : Int) := by
  unfold goFull
  split
  · rename_i hs; exact goD_in h w s hs.1 hs.2
  · omega
theorem lookRunD0 : lookedAt (EX md0 XGoD) (fun _ => none) 2 Tryd.f18 = true := by kernel_rfl
theorem drun0_ok {n : Nat} {N : List Int} {A : List Bool} (hw : WfD n N A) (w : List Int) (hl : w.length ≤ 1000000) : Ok Tryd.prog 18 [dfaV n N A, slI w] (.bool (runD n N A w)) := by
  refine ok_of_WP (E := EX md0 XGoD) (cr := noR) XGoD_ok (noR_ok _) mixed (k := 0) Tryd.func18 lookRunD0 rfl ?_
  have h1 := XGoD_dfa hw 0 w hl
  have h2 := XGoD_ref hw 0 w hl
  have hin := goFull_in hw 0 w
  have ha := hw.a
  simp only [Tryd.f18, Option.getD_some]
  unfold runD
  obtain ⟨g, hg⟩ : ∃ g, g = goFull n N 0 w := ⟨_, rfl⟩
  rw [← hg] at h1 h2 hin ⊢
  by_cases h0 : 0 ≤ g
  · rw [if_pos h0]
    have hat := cB_get (l := A) (i := g.toNat) (s := 1) (by omega)
    simp (disch := omega) only [go_sem, ↓IntWalk.iteOmega, IntWalk.toNatUp, Nat.reduceEqDiff, Nat.reduceAdd, Nat.reduceMul, Nat.reduceSub, Nat.reduceLT, Nat.reduceLeDiff, Int.reduceToNat, Int.reduceLT, Int.reduceLE, Int.reduceEq, Int.reduceAdd, Int.reduceSub, Int.reduceMul, Int.toNat_natCast, reduceCtorEq, decide_true, decide_false, IntWalk.i64_in, IntWalk.u64_in, IntWalk.u8_in, h1, h2, h0, hat]
  · rw [if_neg h0]
    simp (disch := omega) only [go_sem, ↓IntWalk.iteOmega, IntWalk.toNatUp, Nat.reduceEqDiff, Nat.reduceAdd, Nat.reduceMul, Nat.reduceSub, Nat.reduceLT, Nat.reduceLeDiff, Int.reduceToNat, Int.reduceLT, Int.reduceLE, Int.reduceEq, Int.reduceAdd, Int.reduceSub, Int.reduceMul, Int.toNat_natCast, reduceCtorEq, decide_true, decide_false, IntWalk.i64_in, IntWalk.u64_in, IntWalk.u8_in, h1, h2, h0]
theorem lookRunD1 : lookedAt (EX md0 XGoD) (fun _ => none) 2 Tryd.f19 = true := by kernel_rfl
theorem drun1_ok {n : Nat} {N : List Int} {A : List Bool} (hw : WfD n N A) (w : List Int) (hl : w.length ≤ 1000000) : Ok Tryd.prog 19 [dfaV n N A, slI w] (.bool (runD n N A w)) := by
  refine ok_of_WP (E := EX md0 XGoD) (cr := noR) XGoD_ok (noR_ok _) mixed (k := 0) Tryd.func19 lookRunD1 rfl ?_
  have h1 := XGoD_dfa hw 0 w hl
  have h2 := XGoD_ref hw 0 w hl
  have hin := goFull_in hw 0 w
  have ha := hw.a
  simp only [Tryd.f19, Option.getD_some]
  unfold runD
  obtain ⟨g, hg⟩ : ∃ g, g = goFull n N 0 w := ⟨_, rfl⟩
  rw [← hg] at h1 h2 hin ⊢
  by_cases h0 : 0 ≤ g
  · rw [if_pos h0]
    have hat := cB_get (l := A) (i := g.toNat) (s := 1) (by omega)
    simp (disch := omega) only [go_sem, ↓IntWalk.iteOmega, IntWalk.toNatUp, Nat.reduceEqDiff, Nat.reduceAdd, Nat.reduceMul, Nat.reduceSub, Nat.reduceLT, Nat.reduceLeDiff, Int.reduceToNat, Int.reduceLT, Int.reduceLE, Int.reduceEq, Int.reduceAdd, Int.reduceSub, Int.reduceMul, Int.toNat_natCast, reduceCtorEq, decide_true, decide_false, IntWalk.i64_in, IntWalk.u64_in, IntWalk.u8_in, h1, h2, h0, hat]
  · rw [if_neg h0]
    simp (disch := omega) only [go_sem, ↓IntWalk.iteOmega, IntWalk.toNatUp, Nat.reduceEqDiff, Nat.reduceAdd, Nat.reduceMul, Nat.reduceSub, Nat.reduceLT, Nat.reduceLeDiff, Int.reduceToNat, Int.reduceLT, Int.reduceLE, Int.reduceEq, Int.reduceAdd, Int.reduceSub, Int.reduceMul, Int.toNat_natCast, reduceCtorEq, decide_true, decide_false, IntWalk.i64_in, IntWalk.u64_in, IntWalk.u8_in, h1, h2, h0]
def chkD (n : Nat) (N : List Int) (A : List Bool) : Bool := decide (1 ≤ n ∧ n ≤ 2000 ∧ A.length = n) && N.all (fun x => decide (0 ≤ x ∧ x < (n : Int)))
theorem all_not {p : Int → Bool} {l : List Int} {k : Nat} (hk : k < l.length) (h : p (l.getD k 0) = false) : l.all p = false := by
  rw [← Bool.not_eq_true, List.all_eq_true]
  intro hh
  have := hh (l.getD k 0) (by rw [List.getD_eq_getElem?_getD, List.getElem?_eq_getElem hk]; exact List.getElem_mem ..)
  rw [h] at this; cases this
theorem all_all {p : Int → Bool} {l : List Int} (h : ∀ k, k < l.length → p (l.getD k 0) = true) : l.all p = true := by
  rw [List.all_eq_true]
  intro x hx
  obtain ⟨k, hk, rfl⟩ := List.getElem_of_mem hx
  have := h k hk
  rw [List.getD_eq_getElem?_getD, List.getElem?_eq_getElem hk] at this
  exact this
theorem lookChkR (X) : lookedAt (EX md0 X) (fun _ => none) 1 Tryd.f13 = true := by kernel_rfl
theorem lookChkD : lookedAt (EX md0 XStD) (fun _ => none) 1 Tryd.f12 = true := by kernel_rfl
theorem rchk_ok (n : Nat) (N : List Int) (A : List Bool) (hN : N.length = 5 * n) : Ok Tryd.prog 13 [dfaV n N A] (.bool (chkD n N A)) := by
  refine ok_of_WP (E := EX md0 (fun _ _ => none)) (cr := noR) (tab_nil _) (noR_ok _) mixed (k := 2002) Tryd.func13 (lookChkR _) rfl ?_
  simp only [Tryd.f13, Option.getD_some]
  unfold chkD
  by_cases h1 : (n : Int) < 1
  · rw [decide_eq_false (by omega), Bool.false_and]
    simp (disch := omega) only [go_sem, ↓IntWalk.iteOmega, IntWalk.toNatUp, Nat.reduceEqDiff, Nat.reduceAdd, Nat.reduceMul, Nat.reduceSub, Nat.reduceLT, Nat.reduceLeDiff, Int.reduceToNat, Int.reduceLT, Int.reduceLE, Int.reduceEq, Int.reduceAdd, Int.reduceSub, Int.reduceMul, Int.toNat_natCast, reduceCtorEq, decide_true, decide_false, IntWalk.i64_in, IntWalk.u64_in, IntWalk.u8_in, h1]
  by_cases h2 : (2000 : Int) < n
  · rw [decide_eq_false (by omega), Bool.false_and]
    simp (disch := omega) only [go_sem, ↓IntWalk.iteOmega, IntWalk.toNatUp, Nat.reduceEqDiff, Nat.reduceAdd, Nat.reduceMul, Nat.reduceSub, Nat.reduceLT, Nat.reduceLeDiff, Int.reduceToNat, Int.reduceLT, Int.reduceLE, Int.reduceEq, Int.reduceAdd, Int.reduceSub, Int.reduceMul, Int.toNat_natCast, reduceCtorEq, decide_true, decide_false, IntWalk.i64_in, IntWalk.u64_in, IntWalk.u8_in, h1, h2]
  by_cases h3' : ¬ (A.length : Int) = n
  · have h3 := h3'
    rw [decide_eq_false (by omega), Bool.false_and]
    simp (disch := omega) only [go_sem, ↓IntWalk.iteOmega, IntWalk.toNatUp, Nat.reduceEqDiff, Nat.reduceAdd, Nat.reduceMul, Nat.reduceSub, Nat.reduceLT, Nat.reduceLeDiff, Int.reduceToNat, Int.reduceLT, Int.reduceLE, Int.reduceEq, Int.reduceAdd, Int.reduceSub, Int.reduceMul, Int.toNat_natCast, reduceCtorEq, decide_true, decide_false, IntWalk.i64_in, IntWalk.u64_in, IntWalk.u8_in, h1, h2, h3]
  have h3 : (A.length : Int) = n := Decidable.not_not.1 h3'
  rw [decide_eq_true (by omega), Bool.true_and]
  simp (disch := omega) only [go_sem, ↓IntWalk.iteOmega, IntWalk.toNatUp, Nat.reduceEqDiff, Nat.reduceAdd, Nat.reduceMul, Nat.reduceSub, Nat.reduceLT, Nat.reduceLeDiff, Int.reduceToNat, Int.reduceLT, Int.reduceLE, Int.reduceEq, Int.reduceAdd, Int.reduceSub, Int.reduceMul, Int.toNat_natCast, reduceCtorEq, decide_true, decide_false, IntWalk.i64_in, IntWalk.u64_in, IntWalk.u8_in, h1, h2, h3]
  refine WP_loop (fun m a o nx => ∃ i : Nat, i ≤ n ∧ m = n - i ∧ (∀ k, k < i * 5 → decide (0 ≤ N.getD k 0 ∧ N.getD k 0 < (n : Int)) = true) ∧ a 1 = .ptr (0, 1) (0, 1) 0 ∧ a 3 = .int .i64 n ∧ a 4 = .int .i64 i ∧ o (0, 1) = some (.row ⟨25, 1, (0, 1), false, true, [.sl n (cI N), slB A]⟩)) n (by omega) ⟨0, by omega, by omega, fun k hk => by omega, by simp (disch := omega) only [go_sem, ↓IntWalk.iteOmega, IntWalk.toNatUp, Nat.reduceEqDiff, Nat.reduceAdd, Nat.reduceMul, Nat.reduceSub, Nat.reduceLT, Nat.reduceLeDiff, Int.reduceToNat, Int.reduceLT, Int.reduceLE, Int.reduceEq, Int.reduceAdd, Int.reduceSub, Int.reduceMul, Int.toNat_natCast, reduceCtorEq, decide_true, decide_false, IntWalk.i64_in, IntWalk.u64_in, IntWalk.u8_in], by simp (disch := omega) only [go_sem, ↓IntWalk.iteOmega, IntWalk.toNatUp, Nat.reduceEqDiff, Nat.reduceAdd, Nat.reduceMul, Nat.reduceSub, Nat.reduceLT, Nat.reduceLeDiff, Int.reduceToNat, Int.reduceLT, Int.reduceLE, Int.reduceEq, Int.reduceAdd, Int.reduceSub, Int.reduceMul, Int.toNat_natCast, reduceCtorEq, decide_true, decide_false, IntWalk.i64_in, IntWalk.u64_in, IntWalk.u8_in], by simp (disch := omega) only [go_sem, ↓IntWalk.iteOmega, IntWalk.toNatUp, Nat.reduceEqDiff, Nat.reduceAdd, Nat.reduceMul, Nat.reduceSub, Nat.reduceLT, Nat.reduceLeDiff, Int.reduceToNat, Int.reduceLT, Int.reduceLE, Int.reduceEq, Int.reduceAdd, Int.reduceSub, Int.reduceMul, Int.toNat_natCast, reduceCtorEq, decide_true, decide_false, IntWalk.i64_in, IntWalk.u64_in, IntWalk.u8_in], by simp [upd_app]⟩ ?_
  rintro m a o nx ⟨i, hi, rfl, hall, ha1, ha3, ha4, o1⟩
  by_cases hlt : i < n
  · simp (disch := omega) only [go_sem, ↓IntWalk.iteOmega, IntWalk.toNatUp, Nat.reduceEqDiff, Nat.reduceAdd, Nat.reduceMul, Nat.reduceSub, Nat.reduceLT, Nat.reduceLeDiff, Int.reduceToNat, Int.reduceLT, Int.reduceLE, Int.reduceEq, Int.reduceAdd, Int.reduceSub, Int.reduceMul, Int.toNat_natCast, reduceCtorEq, decide_true, decide_false, IntWalk.i64_in, IntWalk.u64_in, IntWalk.u8_in, ha1, ha3, ha4, o1]
    refine WP_loop (fun m' a o' nx => ∃ j : Nat, j ≤ 5 ∧ m' = 5 - j ∧ (∀ k, k < i * 5 + j → decide (0 ≤ N.getD k 0 ∧ N.getD k 0 < (n : Int)) = true) ∧ a 1 = .ptr (0, 1) (0, 1) 0 ∧ a 3 = .int .i64 n ∧ a 4 = .int .i64 i ∧ a 5 = .int .i64 j ∧ o' = o) 5 (by omega) ⟨0, by omega, by omega, hall, by simp (disch := omega) only [go_sem, ↓IntWalk.iteOmega, IntWalk.toNatUp, Nat.reduceEqDiff, Nat.reduceAdd, Nat.reduceMul, Nat.reduceSub, Nat.reduceLT, Nat.reduceLeDiff, Int.reduceToNat, Int.reduceLT, Int.reduceLE, Int.reduceEq, Int.reduceAdd, Int.reduceSub, Int.reduceMul, Int.toNat_natCast, reduceCtorEq, decide_true, decide_false, IntWalk.i64_in, IntWalk.u64_in, IntWalk.u8_in, ha1], by simp (disch := omega) only [go_sem, ↓IntWalk.iteOmega, IntWalk.toNatUp, Nat.reduceEqDiff, Nat.reduceAdd, Nat.reduceMul, Nat.reduceSub, Nat.reduceLT, Nat.reduceLeDiff, Int.reduceToNat, Int.reduceLT, Int.reduceLE, Int.reduceEq, Int.reduceAdd, Int.reduceSub, Int.reduceMul, Int.toNat_natCast, reduceCtorEq, decide_true, decide_false, IntWalk.i64_in, IntWalk.u64_in, IntWalk.u8_in, ha3], by simp (disch := omega) only [go_sem, ↓IntWalk.iteOmega, IntWalk.toNatUp, Nat.reduceEqDiff, Nat.reduceAdd, Nat.reduceMul, Nat.reduceSub, Nat.reduceLT, Nat.reduceLeDiff, Int.reduceToNat, Int.reduceLT, Int.reduceLE, Int.reduceEq, Int.reduceAdd, Int.reduceSub, Int.reduceMul, Int.toNat_natCast, reduceCtorEq, decide_true, decide_false, IntWalk.i64_in, IntWalk.u64_in, IntWalk.u8_in, ha4], by simp (disch := omega) only [go_sem, ↓IntWalk.iteOmega, IntWalk.toNatUp, Nat.reduceEqDiff, Nat.reduceAdd, Nat.reduceMul, Nat.reduceSub, Nat.reduceLT, Nat.reduceLeDiff, Int.reduceToNat, Int.reduceLT, Int.reduceLE, Int.reduceEq, Int.reduceAdd, Int.reduceSub, Int.reduceMul, Int.toNat_natCast, reduceCtorEq, decide_true, decide_false, IntWalk.i64_in, IntWalk.u64_in, IntWalk.u8_in], rfl⟩ ?_
    rintro m' a o' nx ⟨j, hj, rfl, hall, ha1, ha3, ha4, ha5, rfl⟩
    by_cases hj5 : j < 5
    · have hk : i * 5 + j < N.length := by omega
      have hat : take1 false 1 (((cI N).drop (i * 5)).drop j) = some (.int .i64 (N.getD (i * 5 + j) 0)) := by
        rw [List.drop_drop]; exact cI_get hk
      obtain ⟨x, hx⟩ : ∃ x, x = N.getD (i * 5 + j) 0 := ⟨_, rfl⟩
      rw [← hx] at hat
      by_cases hx0 : x < 0
      · rw [all_not hk (by rw [← hx, decide_eq_false_iff_not]; omega)]
        simp (disch := omega) only [go_sem, ↓IntWalk.iteOmega, IntWalk.toNatUp, Nat.reduceEqDiff, Nat.reduceAdd, Nat.reduceMul, Nat.reduceSub, Nat.reduceLT, Nat.reduceLeDiff, Int.reduceToNat, Int.reduceLT, Int.reduceLE, Int.reduceEq, Int.reduceAdd, Int.reduceSub, Int.reduceMul, Int.toNat_natCast, reduceCtorEq, decide_true, decide_false, IntWalk.i64_in, IntWalk.u64_in, IntWalk.u8_in, ha1, ha3, ha4, ha5, o1, hat, hx0]
      · by_cases hxn : (n : Int) ≤ x
        · rw [all_not hk (by rw [← hx, decide_eq_false_iff_not]; omega)]
          simp (disch := omega) only [go_sem, ↓IntWalk.iteOmega, IntWalk.toNatUp, Nat.reduceEqDiff, Nat.reduceAdd, Nat.reduceMul, Nat.reduceSub, Nat.reduceLT, Nat.reduceLeDiff, Int.reduceToNat, Int.reduceLT, Int.reduceLE, Int.reduceEq, Int.reduceAdd, Int.reduceSub, Int.reduceMul, Int.toNat_natCast, reduceCtorEq, decide_true, decide_false, IntWalk.i64_in, IntWalk.u64_in, IntWalk.u8_in, ha1, ha3, ha4, ha5, o1, hat, hx0, hxn]
        · simp (disch := omega) only [go_sem, ↓IntWalk.iteOmega, IntWalk.toNatUp, Nat.reduceEqDiff, Nat.reduceAdd, Nat.reduceMul, Nat.reduceSub, Nat.reduceLT, Nat.reduceLeDiff, Int.reduceToNat, Int.reduceLT, Int.reduceLE, Int.reduceEq, Int.reduceAdd, Int.reduceSub, Int.reduceMul, Int.toNat_natCast, reduceCtorEq, decide_true, decide_false, IntWalk.i64_in, IntWalk.u64_in, IntWalk.u8_in, ha1, ha3, ha4, ha5, o1, hat, hx0, hxn]
          refine ⟨_, by omega, j + 1, by omega, rfl, fun k hk' => ?_, rfl⟩
          by_cases hke : k = i * 5 + j
          · rw [hke, ← hx, decide_eq_true_eq]; omega
          · exact hall k (by omega)
    · have hj' : j = 5 := by omega
      simp (disch := omega) only [go_sem, ↓IntWalk.iteOmega, IntWalk.toNatUp, Nat.reduceEqDiff, Nat.reduceAdd, Nat.reduceMul, Nat.reduceSub, Nat.reduceLT, Nat.reduceLeDiff, Int.reduceToNat, Int.reduceLT, Int.reduceLE, Int.reduceEq, Int.reduceAdd, Int.reduceSub, Int.reduceMul, Int.toNat_natCast, reduceCtorEq, decide_true, decide_false, IntWalk.i64_in, IntWalk.u64_in, IntWalk.u8_in, ha1, ha3, ha4, ha5, o1]
      exact ⟨_, by omega, i + 1, by omega, rfl, fun k hk => hall k (by omega), rfl⟩
  · rw [all_all (fun k hk => hall k (by omega))]
    simp (disch := omega) only [go_sem, ↓IntWalk.iteOmega, IntWalk.toNatUp, Nat.reduceEqDiff, Nat.reduceAdd, Nat.reduceMul, Nat.reduceSub, Nat.reduceLT, Nat.reduceLeDiff, Int.reduceToNat, Int.reduceLT, Int.reduceLE, Int.reduceEq, Int.reduceAdd, Int.reduceSub, Int.reduceMul, Int.toNat_natCast, reduceCtorEq, decide_true, decide_false, IntWalk.i64_in, IntWalk.u64_in, IntWalk.u8_in, ha1, ha3, ha4, o1]
theorem dchk_ok (n : Nat) (N : List Int) (A : List Bool) (hN : N.length = 5 * n) : Ok Tryd.prog 12 [dfaV n N A] (.bool (chkD n N A)) := by
  refine ok_of_WP (E := EX md0 XStD) (cr := noR) XStD_ok (noR_ok _) mixed (k := 2002) Tryd.func12 lookChkD rfl ?_
  simp only [Tryd.f12, Option.getD_some]
  unfold chkD
  have hst := XStD_eq n N A
  by_cases h1 : (n : Int) < 1
  · rw [decide_eq_false (by omega), Bool.false_and]
    simp (disch := omega) only [go_sem, ↓IntWalk.iteOmega, IntWalk.toNatUp, Nat.reduceEqDiff, Nat.reduceAdd, Nat.reduceMul, Nat.reduceSub, Nat.reduceLT, Nat.reduceLeDiff, Int.reduceToNat, Int.reduceLT, Int.reduceLE, Int.reduceEq, Int.reduceAdd, Int.reduceSub, Int.reduceMul, Int.toNat_natCast, reduceCtorEq, decide_true, decide_false, IntWalk.i64_in, IntWalk.u64_in, IntWalk.u8_in, h1]
  by_cases h2 : (2000 : Int) < n
  · rw [decide_eq_false (by omega), Bool.false_and]
    simp (disch := omega) only [go_sem, ↓IntWalk.iteOmega, IntWalk.toNatUp, Nat.reduceEqDiff, Nat.reduceAdd, Nat.reduceMul, Nat.reduceSub, Nat.reduceLT, Nat.reduceLeDiff, Int.reduceToNat, Int.reduceLT, Int.reduceLE, Int.reduceEq, Int.reduceAdd, Int.reduceSub, Int.reduceMul, Int.toNat_natCast, reduceCtorEq, decide_true, decide_false, IntWalk.i64_in, IntWalk.u64_in, IntWalk.u8_in, h1, h2]
  by_cases h3' : ¬ (A.length : Int) = n
  · have h3 := h3'
    rw [decide_eq_false (by omega), Bool.false_and]
    simp (disch := omega) only [go_sem, ↓IntWalk.iteOmega, IntWalk.toNatUp, Nat.reduceEqDiff, Nat.reduceAdd, Nat.reduceMul, Nat.reduceSub, Nat.reduceLT, Nat.reduceLeDiff, Int.reduceToNat, Int.reduceLT, Int.reduceLE, Int.reduceEq, Int.reduceAdd, Int.reduceSub, Int.reduceMul, Int.toNat_natCast, reduceCtorEq, decide_true, decide_false, IntWalk.i64_in, IntWalk.u64_in, IntWalk.u8_in, h1, h2, h3]
  have h3 : (A.length : Int) = n := Decidable.not_not.1 h3'
  rw [decide_eq_true (by omega), Bool.true_and]
  simp (disch := omega) only [go_sem, ↓IntWalk.iteOmega, IntWalk.toNatUp, Nat.reduceEqDiff, Nat.reduceAdd, Nat.reduceMul, Nat.reduceSub, Nat.reduceLT, Nat.reduceLeDiff, Int.reduceToNat, Int.reduceLT, Int.reduceLE, Int.reduceEq, Int.reduceAdd, Int.reduceSub, Int.reduceMul, Int.toNat_natCast, reduceCtorEq, decide_true, decide_false, IntWalk.i64_in, IntWalk.u64_in, IntWalk.u8_in, h1, h2, h3]
  refine WP_loop (fun m a o nx => ∃ i : Nat, i ≤ n ∧ m = n - i ∧ 1 ≤ nx ∧ (∀ k, k < i * 5 → decide (0 ≤ N.getD k 0 ∧ N.getD k 0 < (n : Int)) = true) ∧ a 1 = .ptr (0, 1) (0, 1) 0 ∧ a 3 = .fn (.func 29) [] [] ∧ a 28 = .sl n (cI N) ∧ a 29 = .int .i64 n ∧ a 30 = .int .i64 i ∧ o (0, 1) = some (.row ⟨25, 1, (0, 1), false, true, [.sl n (cI N), slB A]⟩)) n (by omega) ⟨0, by omega, by omega, by omega, fun k hk => by omega, by simp (disch := omega) only [go_sem, ↓IntWalk.iteOmega, IntWalk.toNatUp, Nat.reduceEqDiff, Nat.reduceAdd, Nat.reduceMul, Nat.reduceSub, Nat.reduceLT, Nat.reduceLeDiff, Int.reduceToNat, Int.reduceLT, Int.reduceLE, Int.reduceEq, Int.reduceAdd, Int.reduceSub, Int.reduceMul, Int.toNat_natCast, reduceCtorEq, decide_true, decide_false, IntWalk.i64_in, IntWalk.u64_in, IntWalk.u8_in], by simp (disch := omega) only [go_sem, ↓IntWalk.iteOmega, IntWalk.toNatUp, Nat.reduceEqDiff, Nat.reduceAdd, Nat.reduceMul, Nat.reduceSub, Nat.reduceLT, Nat.reduceLeDiff, Int.reduceToNat, Int.reduceLT, Int.reduceLE, Int.reduceEq, Int.reduceAdd, Int.reduceSub, Int.reduceMul, Int.toNat_natCast, reduceCtorEq, decide_true, decide_false, IntWalk.i64_in, IntWalk.u64_in, IntWalk.u8_in], by simp (disch := omega) only [go_sem, ↓IntWalk.iteOmega, IntWalk.toNatUp, Nat.reduceEqDiff, Nat.reduceAdd, Nat.reduceMul, Nat.reduceSub, Nat.reduceLT, Nat.reduceLeDiff, Int.reduceToNat, Int.reduceLT, Int.reduceLE, Int.reduceEq, Int.reduceAdd, Int.reduceSub, Int.reduceMul, Int.toNat_natCast, reduceCtorEq, decide_true, decide_false, IntWalk.i64_in, IntWalk.u64_in, IntWalk.u8_in], by simp (disch := omega) only [go_sem, ↓IntWalk.iteOmega, IntWalk.toNatUp, Nat.reduceEqDiff, Nat.reduceAdd, Nat.reduceMul, Nat.reduceSub, Nat.reduceLT, Nat.reduceLeDiff, Int.reduceToNat, Int.reduceLT, Int.reduceLE, Int.reduceEq, Int.reduceAdd, Int.reduceSub, Int.reduceMul, Int.toNat_natCast, reduceCtorEq, decide_true, decide_false, IntWalk.i64_in, IntWalk.u64_in, IntWalk.u8_in], by simp (disch := omega) only [go_sem, ↓IntWalk.iteOmega, IntWalk.toNatUp, Nat.reduceEqDiff, Nat.reduceAdd, Nat.reduceMul, Nat.reduceSub, Nat.reduceLT, Nat.reduceLeDiff, Int.reduceToNat, Int.reduceLT, Int.reduceLE, Int.reduceEq, Int.reduceAdd, Int.reduceSub, Int.reduceMul, Int.toNat_natCast, reduceCtorEq, decide_true, decide_false, IntWalk.i64_in, IntWalk.u64_in, IntWalk.u8_in], by simp [upd_app]⟩ ?_
  rintro m a o nx ⟨i, hi, rfl, hnx, hall, ha1, ha3, ha28, ha29, ha30, o1⟩
  by_cases hlt : i < n
  · have hl5 : ((cI N).drop (i * 5)).length = N.length - i * 5 := by rw [List.length_drop, cI_length]
    have hrow : ∀ j, j < 5 → take1 false 1 ((((cI N).drop (i * 5)).take 5).drop j) = some (.int .i64 (N.getD (i * 5 + j) 0)) := fun j hj => by
      rw [List.drop_take, List.drop_drop]
      have hk : i * 5 + j < N.length := by omega
      have := cI_get (s := 1) hk
      cases hd : (cI N).drop (i * 5 + j) with
      | nil => rw [hd] at this; cases this
      | cons y l =>
        rw [hd] at this
        obtain ⟨d, hd'⟩ : ∃ d, 5 - j = d + 1 := ⟨4 - j, by omega⟩
        rw [hd']
        exact this
    have htl : (((cI N).drop (i * 5)).take 5).length = 5 := by rw [List.length_take, hl5]; omega
    have hok : (((cI N).drop (i * 5)).take 5).all cellOk = true := by rw [cI_drop, cI_take]; exact cI_ok _
    have htt : (((cI N).drop (i * 5)).take 5).take 5 = ((cI N).drop (i * 5)).take 5 := take_len htl
    obtain ⟨row, hrw⟩ : ∃ row, row = ((cI N).drop (i * 5)).take 5 := ⟨_, rfl⟩
    rw [← hrw] at hrow htl hok htt
    have hrw' := hrw.symm
    simp (disch := omega) only [go_sem, ↓IntWalk.iteOmega, IntWalk.toNatUp, Nat.reduceEqDiff, Nat.reduceAdd, Nat.reduceMul, Nat.reduceSub, Nat.reduceLT, Nat.reduceLeDiff, Int.reduceToNat, Int.reduceLT, Int.reduceLE, Int.reduceEq, Int.reduceAdd, Int.reduceSub, Int.reduceMul, Int.toNat_natCast, reduceCtorEq, decide_true, decide_false, IntWalk.i64_in, IntWalk.u64_in, IntWalk.u8_in, ha1, ha3, ha28, ha29, ha30, o1, hl5, hrw', htl, hok, htt]
    refine WP_loop (fun m' a o nx => ∃ j : Nat, j ≤ 5 ∧ m' = 5 - j ∧ 1 ≤ nx ∧ (∀ k, k < i * 5 + j → decide (0 ≤ N.getD k 0 ∧ N.getD k 0 < (n : Int)) = true) ∧ a 1 = .ptr (0, 1) (0, 1) 0 ∧ a 3 = .fn (.func 29) [] [] ∧ a 28 = .sl n (cI N) ∧ a 29 = .int .i64 n ∧ a 30 = .int .i64 i ∧ a 34 = .agg row ∧ a 35 = .int .i64 j ∧ o (0, 1) = some (.row ⟨25, 1, (0, 1), false, true, [.sl n (cI N), slB A]⟩)) 5 (by omega) ⟨0, by omega, by omega, by omega, hall, by simp (disch := omega) only [go_sem, ↓IntWalk.iteOmega, IntWalk.toNatUp, Nat.reduceEqDiff, Nat.reduceAdd, Nat.reduceMul, Nat.reduceSub, Nat.reduceLT, Nat.reduceLeDiff, Int.reduceToNat, Int.reduceLT, Int.reduceLE, Int.reduceEq, Int.reduceAdd, Int.reduceSub, Int.reduceMul, Int.toNat_natCast, reduceCtorEq, decide_true, decide_false, IntWalk.i64_in, IntWalk.u64_in, IntWalk.u8_in, ha1], by simp (disch := omega) only [go_sem, ↓IntWalk.iteOmega, IntWalk.toNatUp, Nat.reduceEqDiff, Nat.reduceAdd, Nat.reduceMul, Nat.reduceSub, Nat.reduceLT, Nat.reduceLeDiff, Int.reduceToNat, Int.reduceLT, Int.reduceLE, Int.reduceEq, Int.reduceAdd, Int.reduceSub, Int.reduceMul, Int.toNat_natCast, reduceCtorEq, decide_true, decide_false, IntWalk.i64_in, IntWalk.u64_in, IntWalk.u8_in, ha3], by simp (disch := omega) only [go_sem, ↓IntWalk.iteOmega, IntWalk.toNatUp, Nat.reduceEqDiff, Nat.reduceAdd, Nat.reduceMul, Nat.reduceSub, Nat.reduceLT, Nat.reduceLeDiff, Int.reduceToNat, Int.reduceLT, Int.reduceLE, Int.reduceEq, Int.reduceAdd, Int.reduceSub, Int.reduceMul, Int.toNat_natCast, reduceCtorEq, decide_true, decide_false, IntWalk.i64_in, IntWalk.u64_in, IntWalk.u8_in, ha28], by simp (disch := omega) only [go_sem, ↓IntWalk.iteOmega, IntWalk.toNatUp, Nat.reduceEqDiff, Nat.reduceAdd, Nat.reduceMul, Nat.reduceSub, Nat.reduceLT, Nat.reduceLeDiff, Int.reduceToNat, Int.reduceLT, Int.reduceLE, Int.reduceEq, Int.reduceAdd, Int.reduceSub, Int.reduceMul, Int.toNat_natCast, reduceCtorEq, decide_true, decide_false, IntWalk.i64_in, IntWalk.u64_in, IntWalk.u8_in, ha29], by simp (disch := omega) only [go_sem, ↓IntWalk.iteOmega, IntWalk.toNatUp, Nat.reduceEqDiff, Nat.reduceAdd, Nat.reduceMul, Nat.reduceSub, Nat.reduceLT, Nat.reduceLeDiff, Int.reduceToNat, Int.reduceLT, Int.reduceLE, Int.reduceEq, Int.reduceAdd, Int.reduceSub, Int.reduceMul, Int.toNat_natCast, reduceCtorEq, decide_true, decide_false, IntWalk.i64_in, IntWalk.u64_in, IntWalk.u8_in, ha30], by simp (disch := omega) only [go_sem, ↓IntWalk.iteOmega, IntWalk.toNatUp, Nat.reduceEqDiff, Nat.reduceAdd, Nat.reduceMul, Nat.reduceSub, Nat.reduceLT, Nat.reduceLeDiff, Int.reduceToNat, Int.reduceLT, Int.reduceLE, Int.reduceEq, Int.reduceAdd, Int.reduceSub, Int.reduceMul, Int.toNat_natCast, reduceCtorEq, decide_true, decide_false, IntWalk.i64_in, IntWalk.u64_in, IntWalk.u8_in], by simp (disch := omega) only [go_sem, ↓IntWalk.iteOmega, IntWalk.toNatUp, Nat.reduceEqDiff, Nat.reduceAdd, Nat.reduceMul, Nat.reduceSub, Nat.reduceLT, Nat.reduceLeDiff, Int.reduceToNat, Int.reduceLT, Int.reduceLE, Int.reduceEq, Int.reduceAdd, Int.reduceSub, Int.reduceMul, Int.toNat_natCast, reduceCtorEq, decide_true, decide_false, IntWalk.i64_in, IntWalk.u64_in, IntWalk.u8_in], by simp (disch := omega) [upd_fst, o1]⟩ ?_
    clear ha1 ha3 ha28 ha29 ha30 o1 hnx
    rintro m' a o nx ⟨j, hj, rfl, hnx, hall, ha1, ha3, ha28, ha29, ha30, ha34, ha35, o1⟩
    by_cases hj5 : j < 5
    · have hk : i * 5 + j < N.length := by omega
      have hat := hrow j hj5
      obtain ⟨x, hx⟩ : ∃ x, x = N.getD (i * 5 + j) 0 := ⟨_, rfl⟩
      rw [← hx] at hat
      have hsx := hst x
      by_cases hin : 0 ≤ x ∧ x < (n : Int)
      · rw [decide_eq_true hin] at hsx
        simp (disch := omega) only [go_sem, ↓IntWalk.iteOmega, IntWalk.toNatUp, Nat.reduceEqDiff, Nat.reduceAdd, Nat.reduceMul, Nat.reduceSub, Nat.reduceLT, Nat.reduceLeDiff, Int.reduceToNat, Int.reduceLT, Int.reduceLE, Int.reduceEq, Int.reduceAdd, Int.reduceSub, Int.reduceMul, Int.toNat_natCast, reduceCtorEq, decide_true, decide_false, IntWalk.i64_in, IntWalk.u64_in, IntWalk.u8_in, ha1, ha3, ha28, ha29, ha30, ha34, ha35, o1, hat, hsx]
        refine ⟨_, by omega, j + 1, by omega, rfl, fun k hk' => ?_, rfl⟩
        by_cases hke : k = i * 5 + j
        · rw [hke, ← hx, decide_eq_true_eq]; omega
        · exact hall k (by omega)
      · rw [decide_eq_false hin] at hsx
        rw [all_not hk (by rw [← hx, decide_eq_false_iff_not]; omega)]
        simp (disch := omega) only [go_sem, ↓IntWalk.iteOmega, IntWalk.toNatUp, Nat.reduceEqDiff, Nat.reduceAdd, Nat.reduceMul, Nat.reduceSub, Nat.reduceLT, Nat.reduceLeDiff, Int.reduceToNat, Int.reduceLT, Int.reduceLE, Int.reduceEq, Int.reduceAdd, Int.reduceSub, Int.reduceMul, Int.toNat_natCast, reduceCtorEq, decide_true, decide_false, IntWalk.i64_in, IntWalk.u64_in, IntWalk.u8_in, ha1, ha3, ha28, ha29, ha30, ha34, ha35, o1, hat, hsx]
    · have hj' : j = 5 := by omega
      simp (disch := omega) only [go_sem, ↓IntWalk.iteOmega, IntWalk.toNatUp, Nat.reduceEqDiff, Nat.reduceAdd, Nat.reduceMul, Nat.reduceSub, Nat.reduceLT, Nat.reduceLeDiff, Int.reduceToNat, Int.reduceLT, Int.reduceLE, Int.reduceEq, Int.reduceAdd, Int.reduceSub, Int.reduceMul, Int.toNat_natCast, reduceCtorEq, decide_true, decide_false, IntWalk.i64_in, IntWalk.u64_in, IntWalk.u8_in, ha1, ha3, ha28, ha29, ha30, ha34, ha35, o1]
      exact ⟨_, by omega, i + 1, by omega, rfl, fun k hk => hall k (by omega), rfl⟩
  · rw [all_all (fun k hk => hall k (by omega))]
    simp (disch := omega) only [go_sem, ↓IntWalk.iteOmega, IntWalk.toNatUp, Nat.reduceEqDiff, Nat.reduceAdd, Nat.reduceMul, Nat.reduceSub, Nat.reduceLT, Nat.reduceLeDiff, Int.reduceToNat, Int.reduceLT, Int.reduceLE, Int.reduceEq, Int.reduceAdd, Int.reduceSub, Int.reduceMul, Int.toNat_natCast, reduceCtorEq, decide_true, decide_false, IntWalk.i64_in, IntWalk.u64_in, IntWalk.u8_in, ha1, ha3, ha28, ha29, ha30, o1]
end Go.Proofs.YthhfjjnhkifbfaaDoor.A
