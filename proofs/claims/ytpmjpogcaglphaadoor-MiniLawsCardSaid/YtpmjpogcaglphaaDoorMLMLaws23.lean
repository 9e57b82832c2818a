/- The least machine, plainly: classes numbered by the first state of each kind. -/
import Derived.Test.YtpmjpogcaglphaaDoorMLMLaws17
set_option linter.unusedVariables false
set_option linter.unusedSimpArgs false
set_option linter.unnecessarySimpa false
namespace Go.Proofs.YtpmjpogcaglphaaDoor.A
open Go
set_option maxRecDepth 20000
def u6 (N : List Int) (c : List Nat) (s : Nat) : List Nat := c.getD s 0 :: (List.range 5).map fun m => c.getD (N.getD (s * 5 + m) 0).toNat 0
def R6 (N : List Int) (c : List Nat) : Nat → List Nat × List Nat
 | 0 => ([], [])
 | i + 1 => match (R6 N c i).1.findIdx? (fun f => u6 N c f == u6 N c i) with
  | some k => ((R6 N c i).1, (R6 N c i).2 ++ [k])
  | none => ((R6 N c i).1 ++ [i], (R6 N c i).2 ++ [(R6 N c i).1.length])
structure FinAt (N : List Int) (c : List Nat) (i : Nat) (F x : List Nat) : Prop where
 len : x.length = i
 most : F.length ≤ i
 in_ : ∀ (k f : Nat), F[k]? = some f → f < i ∧ x[f]? = some k
 rep : ∀ (s k : Nat), x[s]? = some k → ∃ f, F[k]? = some f ∧ u6 N c f = u6 N c s
 one : ∀ (k k' f f' : Nat), F[k]? = some f → F[k']? = some f' → u6 N c f = u6 N c f' → k = k'
theorem G8 {α} {l : List α} {a b : α} {k : Nat} (h : (l ++ [a])[k]? = some b) : l[k]? = some b ∨ (k = l.length ∧ b = a) := by
 by_cases hk : k < l.length
 ·rw [List.getElem?_append_left hk] at h; exact .inl h
 ·rw [List.getElem?_append_right (by omega)] at h
  by_cases hk2 : k = l.length
  ·subst hk2; simp at h; exact .inr ⟨rfl, h.symm⟩
  ·rw [List.getElem?_eq_none (by simp; omega)] at h; cases h
theorem W6 {α} {l : List α} {a b : α} {k : Nat} (h : l[k]? = some b) : (l ++ [a])[k]? = some b := by
 rw [List.getElem?_append_left (List.getElem?_eq_some_iff.1 h).1]; exact h
theorem af8 (N : List Int) (c : List Nat) : ∀ i, FinAt N c i (R6 N c i).1 (R6 N c i).2
 | 0 => ⟨rfl, Nat.le_refl _, fun k f h => by simp [R6] at h, fun s k h => by simp [R6] at h, fun k k' f f' h => by simp [R6] at h⟩
 | i + 1 => by
  have ih := af8 N c i
  rw [R6]
  generalize (R6 N c i).1 = F at *
  generalize (R6 N c i).2 = x at *
  cases hf : F.findIdx? (fun f => u6 N c f == u6 N c i) with
  | some k =>
   obtain ⟨hk, hk2, _⟩ := List.findIdx?_eq_some_iff_getElem.1 hf
   have hk2 : u6 N c F[k] = u6 N c i := by simpa using hk2
   have hgk : F[k]? = some F[k] := List.getElem?_eq_getElem hk
   refine ⟨by simp [ih.len], by have := ih.most; simp; omega, fun q f h => ?_, fun s q h => ?_, ih.one⟩
   ·obtain ⟨h1, h2⟩ := ih.in_ q f h
    exact ⟨by omega, W6 h2⟩
   ·rcases G8 h with h | ⟨h1, h2⟩
    ·exact ih.rep s q h
    ·rw [ih.len] at h1
     subst h1 h2
     exact ⟨_, hgk, hk2⟩
  | none =>
   have hn : ∀ f ∈ F, u6 N c f ≠ u6 N c i := fun f hf2 e => by
    have := List.findIdx?_eq_none_iff.1 hf f hf2
    rw [e] at this
    simp at this
   have hn2 : ∀ k f, F[k]? = some f → u6 N c f ≠ u6 N c i := fun k f h => hn f (List.mem_of_getElem? h)
   refine ⟨by simp [ih.len], by have := ih.most; simp; omega, fun q f h => ?_, fun s q h => ?_, fun k k' f f' h h' e => ?_⟩
   ·rcases G8 h with h | ⟨h1, h2⟩
    ·obtain ⟨h1, h2⟩ := ih.in_ q f h
     exact ⟨by omega, W6 h2⟩
    ·subst h1 h2
     exact ⟨by omega, by rw [List.getElem?_append_right (by rw [ih.len]; omega), ih.len]; simp⟩
   ·rcases G8 h with h | ⟨h1, h2⟩
    ·obtain ⟨f, h1, h2⟩ := ih.rep s q h
     exact ⟨f, W6 h1, h2⟩
    ·rw [ih.len] at h1
     subst h1 h2
     exact ⟨s, by simp, rfl⟩
   ·rcases G8 h with h | ⟨h1, h2⟩ <;> rcases G8 h' with h' | ⟨h1', h2'⟩
    ·exact ih.one k k' f f' h h' e
    ·rw [h2'] at e; exact absurd e (hn2 k f h)
    ·rw [h2] at e; exact absurd e.symm (hn2 k' f' h')
    ·omega
theorem FinAt.iff {N c i F x} (h : FinAt N c i F x) {s t k k' : Nat} (hs : x[s]? = some k) (ht : x[t]? = some k') : k = k' ↔ u6 N c s = u6 N c t := by
 obtain ⟨f, f1, f2⟩ := h.rep s k hs
 obtain ⟨g, g1, g2⟩ := h.rep t k' ht
 constructor
 ·rintro rfl
  rw [f1] at g1
  injection g1 with g1
  rw [← f2, ← g2, g1]
 ·intro e
  exact h.one k k' f g f1 g1 (by rw [f2, g2, e])
set_option maxRecDepth 20000
theorem FinAt.lt {N c i F x} (h : FinAt N c i F x) {s k : Nat} (hs : x[s]? = some k) : s < i ∧ k < F.length := by
 obtain ⟨f, f1, _⟩ := h.rep s k hs
 have := (List.getElem?_eq_some_iff.1 hs).1
 exact ⟨by rw [← h.len]; exact this, (List.getElem?_eq_some_iff.1 f1).1⟩
theorem FinAt.get {N c i F x} (h : FinAt N c i F x) {s : Nat} (hs : s < i) : ∃ k, x[s]? = some k := ⟨_, List.getElem?_eq_getElem (by rw [h.len]; exact hs)⟩
theorem aq2 {N : List Int} {c : List Nat} {s t : Nat} (h : u6 N c s = u6 N c t) : c.getD s 0 = c.getD t 0 := by
 unfold u6 at h
 exact (List.cons.inj h).1
theorem bt2 {N : List Int} {c : List Nat} {s t m : Nat} (h : u6 N c s = u6 N c t) (hm : m < 5) : c.getD (N.getD (s * 5 + m) 0).toNat 0 = c.getD (N.getD (t * 5 + m) 0).toNat 0 := by
 unfold u6 at h
 have h := (List.cons.inj h).2
 have h2 := congrArg (fun l : List Nat => l[m]?) h
 simpa [List.getElem?_map, List.getElem?_range hm] using h2
theorem D0 {l : List Nat} {s k : Nat} (h : l[s]? = some k) : l.getD s 0 = k := by simp [List.getD, h]
theorem FinAt.grow {N c i F x F' x'} (h : FinAt N c i F x) (h' : FinAt N x i F' x') : F.length ≤ F'.length ∧ (F.length = F'.length → ∀ s t k : Nat, x[s]? = some k → x[t]? = some k → x'[s]? = x'[t]?) := by
 obtain ⟨L, hL⟩ : ∃ L : List Nat, L = (List.range F.length).map (fun k => x'.getD (F.getD k 0) 0) := ⟨_, rfl⟩
 have hLl : L.length = F.length := by rw [hL]; simp
 have hat : ∀ k, k < F.length → ∃ f k', F[k]? = some f ∧ x[f]? = some k ∧ x'[f]? = some k' ∧ x'.getD (F.getD k 0) 0 = k' := fun k hk => by
  have e := List.getElem?_eq_getElem hk
  obtain ⟨h1, h2⟩ := h.in_ k _ e
  obtain ⟨k', h3⟩ := h'.get h1
  refine ⟨_, k', e, h2, h3, ?_⟩
  rw [D0 e, D0 h3]
 have hinj : ∀ k l, k < F.length → l < F.length → x'.getD (F.getD k 0) 0 = x'.getD (F.getD l 0) 0 → k = l := fun k l hk hl e => by
  obtain ⟨f, k', a1, a2, a3, a4⟩ := hat k hk
  obtain ⟨g, l', b1, b2, b3, b4⟩ := hat l hl
  have e2 := aq2 ((h'.iff a3 b3).1 (by rw [← a4, ← b4, e]))
  rwa [D0 a2, D0 b2] at e2
 have hnd : L.Nodup := by
  rw [hL]
  unfold List.Nodup
  rw [List.pairwise_map]
  refine List.Pairwise.imp_of_mem ?_ List.nodup_range
  intro a b ha hb hab e
  exact hab (hinj a b (List.mem_range.1 ha) (List.mem_range.1 hb) e)
 have hsub : ∀ y ∈ L, y < F'.length := fun y hy => by
  rw [hL] at hy
  obtain ⟨k, hk, rfl⟩ := List.mem_map.1 hy
  obtain ⟨f, k', a1, a2, a3, a4⟩ := hat k (List.mem_range.1 hk)
  rw [a4]
  exact (h'.lt a3).2
 refine ⟨?_, fun he => ?_⟩
 ·have := List.Nodup.length_le_of_subset hnd (l₂ := List.range F'.length) (fun y hy => List.mem_range.2 (hsub y hy))
  rw [List.length_range] at this
  omega
 ·have key : ∀ s k : Nat, x[s]? = some k → ∃ k', x'[s]? = some k' ∧ k' = x'.getD (F.getD k 0) 0 := fun s k hs => by
   obtain ⟨k', hk'⟩ := h'.get (h.lt hs).1
   have hk2 := (h'.lt hk').2
   by_cases hm : k' ∈ L
   ·rw [hL] at hm
    obtain ⟨q, hq, hq2⟩ := List.mem_map.1 hm
    obtain ⟨f, q', a1, a2, a3, a4⟩ := hat q (List.mem_range.1 hq)
    have e2 := aq2 ((h'.iff a3 hk').1 (by rw [← a4]; exact hq2))
    rw [D0 a2, D0 hs] at e2
    subst e2
    exact ⟨k', hk', hq2.symm⟩
   ·have := List.Nodup.length_le_of_subset (l₁ := k' :: L) (l₂ := List.range F'.length) (List.nodup_cons.2 ⟨hm, hnd⟩) (fun y hy => by
     rcases List.mem_cons.1 hy with rfl | hy
     ·exact List.mem_range.2 hk2
     ·exact List.mem_range.2 (hsub y hy))
    rw [List.length_range, List.length_cons] at this
    omega
  intro s t k hs ht
  obtain ⟨a, a1, a2⟩ := key s k hs
  obtain ⟨b, b1, b2⟩ := key t k ht
  rw [a1, b1, a2, b2]
set_option maxRecDepth 20000
def aj0 (N : List Int) (len : Nat) : Nat → List Nat → Nat → Option (List Nat)
 | 0, _, _ => none
 | r + 1, c, n => if (R6 N c len).1.length = n then some (R6 N c len).2 else aj0 N len r (R6 N c len).2 (R6 N c len).1.length
def Ended (N : List Int) (len : Nat) (x : List Nat) : Prop := ∃ c2 F1 c1 F2, FinAt N c2 len F1 c1 ∧ FinAt N c1 len F2 x ∧ F1.length = F2.length
theorem bt3 {N : List Int} {len : Nat} (P : List Nat → Prop) (hP : ∀ c, c.length = len → P c → P (R6 N c len).2) : ∀ (r : Nat) (c0 F c : List Nat), FinAt N c0 len F c → P c → len + 1 - F.length ≤ r → ∃ x, aj0 N len r c F.length = some x ∧ P x ∧ Ended N len x
 | 0, c0, F, c, h, _, hr => by
  have := h.most
  omega
 | r + 1, c0, F, c, h, hc, hr => by
  have h' := af8 N c len
  have hg := (h.grow h').1
  rw [aj0]
  by_cases he : (R6 N c len).1.length = F.length
  ·rw [if_pos he]
   exact ⟨_, rfl, hP c h.len hc, c0, F, c, _, h, h', he.symm⟩
  ·rw [if_neg he]
   exact bt3 P hP r c _ _ h' (hP c h.len hc) (by omega)
theorem bG8 {N : List Int} {len : Nat} (hl : 1 ≤ len) (P : List Nat → Prop) (hP : ∀ c, c.length = len → P c → P (R6 N c len).2) (c : List Nat) (hcl : c.length = len) (hc : P c) : ∃ x, aj0 N len (len + 2) c 0 = some x ∧ P x ∧ Ended N len x := by
 have h' := af8 N c len
 obtain ⟨k, hk⟩ := h'.get (s := 0) (by omega)
 have hpos := (h'.lt hk).2
 rw [aj0, if_neg (by omega)]
 exact bt3 P hP (len + 1) c _ _ h' (hP c hcl hc) (by omega)
theorem Ended.same {N len x} (h : Ended N len x) {s t k : Nat} (hN : ∀ i, i < 5 * len → 0 ≤ N.getD i 0 ∧ N.getD i 0 < len) (hs : x[s]? = some k) (ht : x[t]? = some k) {m : Nat} (hm : m < 5) : x[(N.getD (s * 5 + m) 0).toNat]? = x[(N.getD (t * 5 + m) 0).toNat]? := by
 obtain ⟨c2, F1, c1, F2, h1, h2, he⟩ := h
 have hs2 := (h2.lt hs).1
 have ht2 := (h2.lt ht).1
 have e := bt2 ((h2.iff hs ht).1 rfl) hm
 have a := hN (s * 5 + m) (by omega)
 have b := hN (t * 5 + m) (by omega)
 obtain ⟨p, hp⟩ := h1.get (s := (N.getD (s * 5 + m) 0).toNat) (by omega)
 obtain ⟨q, hq⟩ := h1.get (s := (N.getD (t * 5 + m) 0).toNat) (by omega)
 rw [D0 hp, D0 hq] at e
 exact (h1.grow h2).2 he _ _ p hp (e ▸ hq)
set_option maxRecDepth 20000
def goS (N : List Int) : Nat → List Nat → Nat
 | s, [] => s
 | s, m :: w => goS N (N.getD (s * 5 + m) 0).toNat w
def Agree (A : List Bool) (len : Nat) (c : List Nat) : Prop := ∀ s t : Nat, s < len → t < len → c.getD s 0 = c.getD t 0 → A.getD s false = A.getD t false
def Told (N : List Int) (A : List Bool) (len : Nat) (c : List Nat) : Prop := ∀ s t : Nat, s < len → t < len → c.getD s 0 ≠ c.getD t 0 → ∃ w : List Nat, (∀ m ∈ w, m < 5) ∧ A.getD (goS N s w) false ≠ A.getD (goS N t w) false
theorem Agree.step {N : List Int} {A : List Bool} {len : Nat} {c : List Nat} (h : Agree A len c) : Agree A len (R6 N c len).2 := fun s t hs ht e => by
 have h' := af8 N c len
 obtain ⟨k, hk⟩ := h'.get hs
 obtain ⟨l, hl⟩ := h'.get ht
 rw [D0 hk, D0 hl] at e
 exact h s t hs ht (aq2 ((h'.iff hk hl).1 e))
theorem aP4 {N : List Int} {c : List Nat} {s t : Nat} (h : u6 N c s ≠ u6 N c t) : c.getD s 0 ≠ c.getD t 0 ∨ ∃ m, m < 5 ∧ c.getD (N.getD (s * 5 + m) 0).toNat 0 ≠ c.getD (N.getD (t * 5 + m) 0).toNat 0 := by
 by_cases h0 : c.getD s 0 = c.getD t 0
 ·refine .inr ?_
  by_cases hx : ∀ m, m < 5 → c.getD (N.getD (s * 5 + m) 0).toNat 0 = c.getD (N.getD (t * 5 + m) 0).toNat 0
  ·refine absurd ?_ h
   unfold u6
   rw [h0]
   refine congrArg (_ :: ·) (List.map_congr_left fun m hm => hx m (List.mem_range.1 hm))
  ·obtain ⟨m, hm⟩ := Classical.not_forall.1 hx
   obtain ⟨h1, h2⟩ := Classical.not_imp.1 hm
   exact ⟨m, h1, h2⟩
 ·exact .inl h0
theorem Told.step {N : List Int} {A : List Bool} {len : Nat} {c : List Nat} (hN : ∀ i, i < 5 * len → 0 ≤ N.getD i 0 ∧ N.getD i 0 < len) (h : Told N A len c) : Told N A len (R6 N c len).2 := fun s t hs ht e => by
 have h' := af8 N c len
 obtain ⟨k, hk⟩ := h'.get hs
 obtain ⟨l, hl⟩ := h'.get ht
 rw [D0 hk, D0 hl] at e
 rcases aP4 (fun e2 => e ((h'.iff hk hl).2 e2)) with h0 | ⟨m, hm, h0⟩
 ·exact h s t hs ht h0
 ·have a := hN (s * 5 + m) (by omega)
  have b := hN (t * 5 + m) (by omega)
  obtain ⟨w, w1, w2⟩ := h (N.getD (s * 5 + m) 0).toNat (N.getD (t * 5 + m) 0).toNat (by omega) (by omega) h0
  refine ⟨m :: w, fun y hy => ?_, w2⟩
  rcases List.mem_cons.1 hy with rfl | hy
  ·exact hm
  ·exact w1 y hy
def aq3 (A : List Bool) : List Nat := A.map fun b => if b then 1 else 0
theorem ak0 {A : List Bool} {s : Nat} (h : s < A.length) : (aq3 A).getD s 0 = if A.getD s false then 1 else 0 := by
 simp [aq3, List.getD, h]
theorem be2 (A : List Bool) : Agree A A.length (aq3 A) := fun s t hs ht e => by
 rw [ak0 hs, ak0 ht] at e
 cases h1 : A.getD s false <;> cases h2 : A.getD t false <;> simp_all
theorem bt4 (N : List Int) (A : List Bool) : Told N A A.length (aq3 A) := fun s t hs ht e => by
 refine ⟨[], ⟨fun y hy => (List.not_mem_nil hy).elim, fun e2 => e ?_⟩⟩
 rw [ak0 hs, ak0 ht]
 change A.getD s false = A.getD t false at e2
 rw [e2]
theorem be3 {N : List Int} {A : List Bool} (hl : 1 ≤ A.length) (hN : ∀ i, i < 5 * A.length → 0 ≤ N.getD i 0 ∧ N.getD i 0 < A.length) : ∃ x, aj0 N A.length (A.length + 2) (aq3 A) 0 = some x ∧ Agree A A.length x ∧ Told N A A.length x ∧ Ended N A.length x := by
 obtain ⟨x, h1, ⟨h2, h3⟩, h4⟩ := bG8 (N := N) hl (fun c => Agree A A.length c ∧ Told N A A.length c) (fun c _ h => ⟨h.1.step, h.2.step hN⟩) (aq3 A) (by simp [aq3]) ⟨be2 A, bt4 N A⟩
 exact ⟨x, h1, h2, h3, h4⟩
set_option maxRecDepth 20000
def aI6 (cl : Nat → Nat) (L : List Nat) (to : Nat) : Nat × List Nat :=
 match L.findIdx? (fun s => cl s == cl to) with
 | some k => (k, L)
 | none => (L.length, L ++ [to])
def M4 (cl : Nat → Nat) (nx : Nat → Nat → Nat) (x : Nat) : Nat → List Nat → List Nat × List Nat
 | 0, L => ([], L)
 | j + 1, L => ((M4 cl nx x j L).1 ++ [(aI6 cl (M4 cl nx x j L).2 (nx x j)).1], (aI6 cl (M4 cl nx x j L).2 (nx x j)).2)
def aB3 (cl : Nat → Nat) (L : List Nat) : Prop := ∀ i j s t : Nat, L[i]? = some s → L[j]? = some t → cl s = cl t → i = j
theorem bX0 {cl : Nat → Nat} {L : List Nat} (h : aB3 cl L) (to : Nat) : aB3 cl (aI6 cl L to).2 ∧ (∀ i s : Nat, L[i]? = some s → (aI6 cl L to).2[i]? = some s) ∧ ∃ s, (aI6 cl L to).2[(aI6 cl L to).1]? = some s ∧ cl s = cl to := by
 unfold aI6
 cases hf : L.findIdx? (fun s => cl s == cl to) with
 | some k =>
  obtain ⟨hk, hk2, _⟩ := List.findIdx?_eq_some_iff_getElem.1 hf
  exact ⟨h, fun i s hs => hs, _, List.getElem?_eq_getElem hk, by simpa using hk2⟩
 | none =>
  have hn : ∀ (k s : Nat), L[k]? = some s → cl s ≠ cl to := fun k s hs e => by
   have := List.findIdx?_eq_none_iff.1 hf s (List.mem_of_getElem? hs)
   rw [e] at this
   simp at this
  refine ⟨fun i j s t hs ht e => ?_, fun i s hs => W6 hs, to, by simp, rfl⟩
  rcases G8 hs with hs | ⟨h1, h2⟩ <;> rcases G8 ht with ht | ⟨h1', h2'⟩
  ·exact h i j s t hs ht e
  ·rw [h2'] at e; exact absurd e (hn i s hs)
  ·rw [h2] at e; exact absurd e.symm (hn j t ht)
  ·omega
theorem aB4 {cl : Nat → Nat} {nx : Nat → Nat → Nat} {x : Nat} {L : List Nat} (h : aB3 cl L) : ∀ j : Nat, aB3 cl (M4 cl nx x j L).2 ∧ (∀ i s : Nat, L[i]? = some s → (M4 cl nx x j L).2[i]? = some s) ∧ (M4 cl nx x j L).1.length = j ∧ ∀ m : Nat, m < j → ∃ k s : Nat, (M4 cl nx x j L).1[m]? = some k ∧ (M4 cl nx x j L).2[k]? = some s ∧ cl s = cl (nx x m)
 | 0 => ⟨h, fun _ _ hs => hs, rfl, fun m hm => by omega⟩
 | j + 1 => by
  obtain ⟨h1, h2, h3, h4⟩ := aB4 h j
  rw [M4]
  generalize (M4 cl nx x j L).1 = R at *
  generalize (M4 cl nx x j L).2 = M at *
  obtain ⟨g1, g2, s, g3, g4⟩ := bX0 h1 (nx x j)
  refine ⟨g1, fun i s hs => g2 i s (h2 i s hs), by simp [h3], fun m hm => ?_⟩
  by_cases hmj : m < j
  ·obtain ⟨k, t, e1, e2, e3⟩ := h4 m hmj
   exact ⟨k, t, W6 e1, g2 k t e2, e3⟩
  ·have : m = j := by omega
   subst this
   exact ⟨_, s, by show (R ++ [_])[m]? = _; rw [List.getElem?_append_right (by omega), h3]; simp, g3, g4⟩
def goC (cl : Nat → Nat) (nx : Nat → Nat → Nat) : Nat → Nat → List Nat → List Nat → Option (List Nat × List Nat)
 | 0, _, _, _ => none
 | r + 1, i, L, R => match L[i]? with
  | none => some (L, R)
  | some x => goC cl nx r (i + 1) (M4 cl nx x 5 L).2 (R ++ (M4 cl nx x 5 L).1)
structure MidC (cl : Nat → Nat) (nx : Nat → Nat → Nat) (i : Nat) (L R : List Nat) : Prop where
 dist : aB3 cl L
 le : i ≤ L.length
 len : R.length = i * 5
 row : ∀ a m : Nat, a < i → m < 5 → ∃ x k s : Nat, L[a]? = some x ∧ R[a * 5 + m]? = some k ∧ L[k]? = some s ∧ cl s = cl (nx x m)
theorem bX1 {l r : List Nat} {k b : Nat} (h : l[k]? = some b) : (l ++ r)[k]? = some b := by
 rw [List.getElem?_append_left (List.getElem?_eq_some_iff.1 h).1]; exact h
theorem bt5 {cl : Nat → Nat} {nx : Nat → Nat → Nat} : ∀ (r i : Nat) (L R : List Nat), MidC cl nx i L R → ∀ p, goC cl nx r i L R = some p → MidC cl nx p.1.length p.1 p.2 ∧ ∀ a s : Nat, L[a]? = some s → p.1[a]? = some s
 | 0, i, L, R, _, p, hp => by cases hp
 | r + 1, i, L, R, h, p, hp => by
  rw [goC] at hp
  cases hx : L[i]? with
  | none =>
   rw [hx] at hp
   injection hp with hp
   subst hp
   have h1 := List.getElem?_eq_none_iff.1 hx
   have h2 := h.le
   have : i = L.length := by omega
   subst this
   exact ⟨h, fun a s hs => hs⟩
  | some x =>
   rw [hx] at hp
   have hp : goC cl nx r (i + 1) (M4 cl nx x 5 L).2 (R ++ (M4 cl nx x 5 L).1) = some p := hp
   obtain ⟨h1, h2, h3, h4⟩ := aB4 (nx := nx) (x := x) h.dist 5
   have hx2 := h2 i x hx
   have hl := h.len
   obtain ⟨g1, g2⟩ := bt5 r (i + 1) _ _ ⟨h1, (List.getElem?_eq_some_iff.1 hx2).1, by rw [List.length_append, h3, hl]; omega, fun a m ha hm => by
    by_cases hai : a < i
    ·obtain ⟨y, k, s, e1, e2, e3, e4⟩ := h.row a m hai hm
     exact ⟨y, k, s, h2 a y e1, bX1 e2, h2 k s e3, e4⟩
    ·have : a = i := by omega
     subst this
     obtain ⟨k, s, e1, e2, e3⟩ := h4 m hm
     exact ⟨x, k, s, hx2, by rw [List.getElem?_append_right (by omega), hl, show a * 5 + m - a * 5 = m by omega]; exact e1, e2, e3⟩⟩ p hp
   exact ⟨g1, fun a s hs => g2 a s (h2 a s hs)⟩
theorem ac7 {cl : Nat → Nat} {n : Nat} (hc : ∀ s, cl s < n) {L : List Nat} (h : aB3 cl L) : L.length ≤ n := by
 have hnd : (L.map cl).Nodup := by
  unfold List.Nodup
  rw [List.pairwise_map, List.pairwise_iff_getElem]
  intro i j hi hj hij e
  have := h i j _ _ (List.getElem?_eq_getElem hi) (List.getElem?_eq_getElem hj) e
  omega
 have := List.Nodup.length_le_of_subset hnd (l₂ := List.range n) (fun y hy => by
  obtain ⟨s, _, rfl⟩ := List.mem_map.1 hy
  exact List.mem_range.2 (hc s))
 rwa [List.length_map, List.length_range] at this
theorem aX0 {cl : Nat → Nat} {nx : Nat → Nat → Nat} {n : Nat} (hc : ∀ s, cl s < n) : ∀ (r i : Nat) (L R : List Nat), aB3 cl L → i ≤ L.length → n + 1 - i ≤ r → ∃ p, goC cl nx r i L R = some p
 | 0, i, L, R, h, hi, hr => by
  have := ac7 hc h
  omega
 | r + 1, i, L, R, h, hi, hr => by
  rw [goC]
  cases hx : L[i]? with
  | none => exact ⟨_, rfl⟩
  | some x =>
   obtain ⟨h1, h2, _, _⟩ := aB4 (nx := nx) (x := x) h 5
   have := (List.getElem?_eq_some_iff.1 (h2 i x hx)).1
   exact aX0 hc r (i + 1) _ _ h1 this (by omega)
set_option maxRecDepth 20000
theorem Ended.get {N len x} (h : Ended N len x) {s : Nat} (hs : s < len) : ∃ k, x[s]? = some k := by
 obtain ⟨c2, F1, c1, F2, h1, h2, he⟩ := h
 exact h2.get hs
theorem bG9 {cl : Nat → Nat} {L : List Nat} {to : Nat} {p : Nat → Prop} (h : ∀ s ∈ L, p s) (ht : p to) : ∀ s ∈ (aI6 cl L to).2, p s := by
 unfold aI6
 cases L.findIdx? (fun s => cl s == cl to) with
 | some k => exact h
 | none =>
  intro s hs
  rcases List.mem_append.1 hs with hs | hs
  ·exact h s hs
  ·rw [List.mem_singleton.1 hs]; exact ht
theorem aB5 {cl : Nat → Nat} {nx : Nat → Nat → Nat} {x : Nat} {L : List Nat} {p : Nat → Prop} (h : ∀ s ∈ L, p s) : ∀ j : Nat, (∀ m, m < j → p (nx x m)) → ∀ s ∈ (M4 cl nx x j L).2, p s
 | 0, _ => h
 | j + 1, hn => by
  rw [M4]
  exact bG9 (aB5 h j (fun m hm => hn m (by omega))) (hn j (by omega))
theorem bt6 {cl : Nat → Nat} {nx : Nat → Nat → Nat} {p : Nat → Prop} (hn : ∀ x m, p x → m < 5 → p (nx x m)) : ∀ (r i : Nat) (L R : List Nat), (∀ s ∈ L, p s) → ∀ q, goC cl nx r i L R = some q → ∀ s ∈ q.1, p s
 | 0, i, L, R, _, q, hq => by cases hq
 | r + 1, i, L, R, h, q, hq => by
  rw [goC] at hq
  cases hx : L[i]? with
  | none =>
   rw [hx] at hq
   injection hq with hq
   subst hq
   exact h
  | some x =>
   rw [hx] at hq
   have hq : goC cl nx r (i + 1) (M4 cl nx x 5 L).2 (R ++ (M4 cl nx x 5 L).1) = some q := hq
   exact bt6 hn r (i + 1) _ _ (aB5 h 5 (fun m hm => hn x m (h x (List.mem_of_getElem? hx)) hm)) q hq
set_option maxRecDepth 20000
def Eqv (N : List Int) (A : List Bool) (M : List Int) (B : List Bool) (s t : Nat) : Prop := ∀ w : List Nat, (∀ m ∈ w, m < 5) → A.getD (goS N s w) false = B.getD (goS M t w) false
theorem Eqv.symm {N A M B s t} (h : Eqv N A M B s t) : Eqv M B N A t s := fun w hw => (h w hw).symm
theorem Eqv.trans {N A M B K C s t u} (h : Eqv N A M B s t) (h' : Eqv M B K C t u) : Eqv N A K C s u := fun w hw => (h w hw).trans (h' w hw)
theorem Eqv.refl (N A s) : Eqv N A N A s s := fun w hw => rfl
theorem Eqv.next {N A M B s t m} (h : Eqv N A M B s t) (hm : m < 5) : Eqv N A M B (N.getD (s * 5 + m) 0).toNat (M.getD (t * 5 + m) 0).toNat := fun w hw => by
 have := h (m :: w) (fun y hy => by
  rcases List.mem_cons.1 hy with rfl | hy
  ·exact hm
  ·exact hw y hy)
 exact this
theorem Eqv.acc {N A M B s t} (h : Eqv N A M B s t) : A.getD s false = B.getD t false := h [] (fun y hy => (List.not_mem_nil hy).elim)
structure OkD (N : List Int) (A : List Bool) : Prop where
 l : 1 ≤ A.length
 e : ∀ i, i < 5 * A.length → 0 ≤ N.getD i 0 ∧ N.getD i 0 < A.length
theorem OkD.next {N A} (h : OkD N A) {s m : Nat} (hs : s < A.length) (hm : m < 5) : (N.getD (s * 5 + m) 0).toNat < A.length := by
 have := h.e (s * 5 + m) (by omega)
 omega
theorem bX2 {N A x} (h : OkD N A) (h1 : Agree A A.length x) (h2 : Told N A A.length x) (h3 : Ended N A.length x) {s t : Nat} (hs : s < A.length) (ht : t < A.length) : x.getD s 0 = x.getD t 0 ↔ Eqv N A N A s t := by
 constructor
 ·intro e w
  induction w generalizing s t with
  | nil => exact fun _ => h1 s t hs ht e
  | cons m w ih =>
   intro hw
   have hm := hw m (List.mem_cons_self ..)
   obtain ⟨k, hk⟩ := h3.get hs
   obtain ⟨l, hl⟩ := h3.get ht
   rw [D0 hk, D0 hl] at e
   subst e
   have e2 := h3.same h.e hk hl hm
   refine ih (h.next hs hm) (h.next ht hm) ?_ (fun y hy => hw y (List.mem_cons_of_mem _ hy))
   exact congrArg (fun o : Option Nat => o.getD 0) e2
 ·intro he
  by_cases e : x.getD s 0 = x.getD t 0
  ·exact e
  ·obtain ⟨w, w1, w2⟩ := h2 s t hs ht e
   exact absurd (he w w1) w2
def Rl (E : Nat → Nat → Prop) (L L' : List Nat) : Prop := L.length = L'.length ∧ ∀ i s s' : Nat, L[i]? = some s → L'[i]? = some s' → E s s'
theorem Rl.snoc {E : Nat → Nat → Prop} {L L' : List Nat} (h : Rl E L L') {s s' : Nat} (hs : E s s') : Rl E (L ++ [s]) (L' ++ [s']) := by
 refine ⟨by simp [h.1], fun i a a' ha ha' => ?_⟩
 rcases G8 ha with ha | ⟨h1, h2⟩ <;> rcases G8 ha' with ha' | ⟨h1', h2'⟩
 ·exact h.2 i a a' ha ha'
 ·have := (List.getElem?_eq_some_iff.1 ha).1
  have := h.1
  omega
 ·have := (List.getElem?_eq_some_iff.1 ha').1
  have := h.1
  omega
 ·rw [h2, h2']; exact hs
theorem Rl.get {E : Nat → Nat → Prop} {L L' : List Nat} (h : Rl E L L') (i : Nat) : (L[i]? = none ∧ L'[i]? = none) ∨ ∃ s s', L[i]? = some s ∧ L'[i]? = some s' ∧ E s s' := by
 have hl := h.1
 by_cases hi : i < L.length
 ·have e1 := List.getElem?_eq_getElem hi
  have e2 := List.getElem?_eq_getElem (l := L') (i := i) (by omega)
  exact .inr ⟨_, _, e1, e2, h.2 _ _ _ e1 e2⟩
 ·exact .inl ⟨List.getElem?_eq_none (by omega), List.getElem?_eq_none (by omega)⟩
section
variable {cl cl' : Nat → Nat} {nx nx' : Nat → Nat → Nat} {E : Nat → Nat → Prop} (h1 : ∀ s s' t t', E s s' → E t t' → (cl s = cl t ↔ cl' s' = cl' t')) (h2 : ∀ s s' m, m < 5 → E s s' → E (nx s m) (nx' s' m))
include h1 in
theorem bt7 {L L' : List Nat} (hL : Rl E L L') {to to' : Nat} (ht : E to to') : (aI6 cl L to).1 = (aI6 cl' L' to').1 ∧ Rl E (aI6 cl L to).2 (aI6 cl' L' to').2 := by
 have he : L.findIdx? (fun s => cl s == cl to) = L'.findIdx? (fun s => cl' s == cl' to') := by
  have e : L.map (fun s => cl s == cl to) = L'.map (fun s => cl' s == cl' to') := by
   refine List.ext_getElem? fun i => ?_
   rw [List.getElem?_map, List.getElem?_map]
   rcases hL.get i with ⟨e1, e2⟩ | ⟨s, s', e1, e2, e3⟩
   ·rw [e1, e2]; rfl
   ·rw [e1, e2]
    have := h1 s s' to to' e3 ht
    simp only [Option.map_some, Option.some.injEq]
    rw [Bool.eq_iff_iff]
    simpa using this
  have e3 := congrArg (List.findIdx? id) e
  rw [List.findIdx?_map, List.findIdx?_map] at e3
  exact e3
 unfold aI6
 rw [he]
 cases L'.findIdx? (fun s => cl' s == cl' to') with
 | some k => exact ⟨rfl, hL⟩
 | none => exact ⟨hL.1, hL.snoc ht⟩
include h1 h2 in
theorem aI7 {L L' : List Nat} (hL : Rl E L L') {x x' : Nat} (hx : E x x') : ∀ j, j ≤ 5 → (M4 cl nx x j L).1 = (M4 cl' nx' x' j L').1 ∧ Rl E (M4 cl nx x j L).2 (M4 cl' nx' x' j L').2
 | 0, _ => ⟨rfl, hL⟩
 | j + 1, hj => by
  obtain ⟨i1, i2⟩ := aI7 hL hx j (by omega)
  obtain ⟨g1, g2⟩ := bt7 h1 i2 (h2 x x' j (by omega) hx)
  rw [M4, M4]
  exact ⟨by rw [i1, g1], g2⟩
include h1 h2 in
theorem aX1 : ∀ (r r' i : Nat) (L L' R : List Nat) (p p' : List Nat × List Nat), Rl E L L' → goC cl nx r i L R = some p → goC cl' nx' r' i L' R = some p' → Rl E p.1 p'.1 ∧ p.2 = p'.2
 | 0, _, _, _, _, _, _, _, _, h, _ => by cases h
 | r + 1, 0, _, _, _, _, _, _, _, _, h => by cases h
 | r + 1, r' + 1, i, L, L', R, p, p', hL, h, h' => by
  rw [goC] at h h'
  rcases hL.get i with ⟨e1, e2⟩ | ⟨s, s', e1, e2, e3⟩
  ·rw [e1] at h
   rw [e2] at h'
   injection h with h
   injection h' with h'
   subst h h'
   exact ⟨hL, rfl⟩
  ·rw [e1] at h
   rw [e2] at h'
   have h : goC cl nx r (i + 1) (M4 cl nx s 5 L).2 (R ++ (M4 cl nx s 5 L).1) = some p := h
   have h' : goC cl' nx' r' (i + 1) (M4 cl' nx' s' 5 L').2 (R ++ (M4 cl' nx' s' 5 L').1) = some p' := h'
   obtain ⟨g1, g2⟩ := aI7 h1 h2 hL e3 5 (Nat.le_refl _)
   rw [← g1] at h'
   exact aX1 r r' (i + 1) _ _ _ p p' g2 h h'
end
def P4 (N : List Int) (A : List Bool) : List Nat := (aj0 N A.length (A.length + 2) (aq3 A) 0).getD []
def R3 (N : List Int) (s m : Nat) : Nat := (N.getD (s * 5 + m) 0).toNat
def R5 (N : List Int) (A : List Bool) : List Nat × List Nat := (goC (fun s => (P4 N A).getD s 0) (R3 N) (A.length + 2) 0 [0] []).getD ([], [])
def ar4 (N : List Int) (A : List Bool) : List Int := (R5 N A).2.map fun k : Nat => (k : Int)
def Z1 (N : List Int) (A : List Bool) : List Bool := (R5 N A).1.map fun s => A.getD s false
theorem ak1 {N A} (h : OkD N A) : aj0 N A.length (A.length + 2) (aq3 A) 0 = some (P4 N A) ∧ Agree A A.length (P4 N A) ∧ Told N A A.length (P4 N A) ∧ Ended N A.length (P4 N A) := by
 obtain ⟨x, h1, h2, h3, h4⟩ := be3 h.l h.e
 have e : P4 N A = x := by rw [P4, h1]; rfl
 rw [e]
 exact ⟨h1, h2, h3, h4⟩
theorem bt8 {N A} (h : OkD N A) {s t : Nat} (hs : s < A.length) (ht : t < A.length) : (P4 N A).getD s 0 = (P4 N A).getD t 0 ↔ Eqv N A N A s t := by
 obtain ⟨_, h2, h3, h4⟩ := ak1 h
 exact bX2 h h2 h3 h4 hs ht
theorem bt9 {N A} (h : OkD N A) (s : Nat) : (P4 N A).getD s 0 < A.length := by
 obtain ⟨_, _, _, c2, F1, c1, F2, h1, h2, he⟩ := ak1 h
 have hl := h.l
 cases hx : (P4 N A)[s]? with
 | none => simp only [List.getD, hx]; exact hl
 | some k =>
  have := (h2.lt hx).2
  have := h2.most
  simp only [List.getD, hx]
  exact Nat.lt_of_lt_of_le (by assumption) (by assumption)
theorem aq4 (cl : Nat → Nat) (s : Nat) : aB3 cl [s] := fun i j a b ha hb _ => by
 have h1 := (List.getElem?_eq_some_iff.1 ha).1
 have h2 := (List.getElem?_eq_some_iff.1 hb).1
 simp at h1 h2
 omega
structure MinOk (N : List Int) (A : List Bool) (L R : List Nat) : Prop where
 run : goC (fun s => (P4 N A).getD s 0) (R3 N) (A.length + 2) 0 [0] [] = some (L, R)
 mid : MidC (fun s => (P4 N A).getD s 0) (R3 N) L.length L R
 head : L[0]? = some 0
 lt : ∀ a s : Nat, L[a]? = some s → s < A.length
theorem aw5 {N A} (h : OkD N A) : MinOk N A (R5 N A).1 (R5 N A).2 := by
 have hl := h.l
 obtain ⟨p, hp⟩ := aX0 (cl := fun s => (P4 N A).getD s 0) (nx := R3 N) (n := A.length) (fun s => bt9 h s) (A.length + 2) 0 [0] [] (aq4 _ 0) (by simp) (by omega)
 have e : R5 N A = p := by rw [R5, hp]; rfl
 rw [e]
 obtain ⟨h1, h2⟩ := bt5 _ _ _ _ ⟨aq4 _ 0, by simp, rfl, fun a m ha => by omega⟩ p hp
 have h3 := bt6 (p := fun s => s < A.length) (fun x m hx hm => h.next hx hm) _ _ _ _ (fun s hs => by rw [List.mem_singleton.1 hs]; exact hl) p hp
 exact ⟨hp, h1, h2 0 0 rfl, fun a s hs => h3 s (List.mem_of_getElem? hs)⟩
theorem ac8 (N A) : (Z1 N A).length = (R5 N A).1.length := by simp [Z1]
theorem bH0 {N A} (h : OkD N A) : (ar4 N A).length = 5 * (Z1 N A).length := by
 have := (aw5 h).mid.len
 rw [ar4, List.length_map, ac8]
 omega
theorem bL9 {N A} (h : OkD N A) : 1 ≤ (Z1 N A).length ∧ (Z1 N A).length ≤ A.length := by
 have hm := aw5 h
 rw [ac8]
 refine ⟨(List.getElem?_eq_some_iff.1 hm.head).1, ac7 (fun s => bt9 h s) hm.mid.dist⟩
theorem bX3 {N A} (h : OkD N A) {a m : Nat} (ha : a < (Z1 N A).length) (hm : m < 5) : ∃ x k s : Nat, (R5 N A).1[a]? = some x ∧ (ar4 N A).getD (a * 5 + m) 0 = (k : Int) ∧ k < (Z1 N A).length ∧ (R5 N A).1[k]? = some s ∧ (P4 N A).getD s 0 = (P4 N A).getD (R3 N x m) 0 := by
 rw [ac8] at ha
 obtain ⟨x, k, s, e1, e2, e3, e4⟩ := (aw5 h).mid.row a m ha hm
 exact ⟨x, k, s, e1, by simp [ar4, List.getD, e2], by rw [ac8]; exact (List.getElem?_eq_some_iff.1 e3).1, e3, e4⟩
theorem bX4 {N A} (h : OkD N A) : OkD (ar4 N A) (Z1 N A) := by
 refine ⟨(bL9 h).1, fun i hi => ?_⟩
 obtain ⟨x, k, s, _, e2, e3, _⟩ := bX3 h (a := i / 5) (m := i % 5) (by omega) (by omega)
 rw [show i = i / 5 * 5 + i % 5 by omega, e2]
 omega
theorem bX5 {N A M B} (h : OkD N A) (h' : OkD M B) (he : Eqv N A M B 0 0) : ar4 N A = ar4 M B ∧ Z1 N A = Z1 M B := by
 have hm := aw5 h
 have hm' := aw5 h'
 obtain ⟨g1, g2⟩ := aX1 (cl := fun s => (P4 N A).getD s 0) (cl' := fun s => (P4 M B).getD s 0) (nx := R3 N) (nx' := R3 M) (E := fun s t => s < A.length ∧ t < B.length ∧ Eqv N A M B s t)
  (fun s s' t t' ⟨a1, a2, a3⟩ ⟨b1, b2, b3⟩ => by
   rw [bt8 h a1 b1, bt8 h' a2 b2]
   exact ⟨fun e => (a3.symm.trans e).trans b3, fun e => (a3.trans e).trans b3.symm⟩)
  (fun s s' m hm ⟨a1, a2, a3⟩ => ⟨h.next a1 hm, h'.next a2 hm, a3.next hm⟩)
  _ _ _ _ _ _ _ _ (⟨rfl, fun i a b ha hb => by
   have h1 := (List.getElem?_eq_some_iff.1 ha).1
   simp at h1
   subst h1
   simp at ha hb
   subst ha hb
   exact ⟨h.l, h'.l, he⟩⟩) hm.run hm'.run
 refine ⟨by rw [ar4, ar4]; exact congrArg _ g2, ?_⟩
 refine List.ext_getElem? fun i => ?_
 rw [Z1, Z1, List.getElem?_map, List.getElem?_map]
 rcases g1.get i with ⟨e1, e2⟩ | ⟨s, s', e1, e2, e3⟩
 ·have e1 : (R5 N A).1[i]? = none := e1
  have e2 : (R5 M B).1[i]? = none := e2
  rw [e1, e2]; rfl
 ·have e1 : (R5 N A).1[i]? = some s := e1
  have e2 : (R5 M B).1[i]? = some s' := e2
  rw [e1, e2]
  simp only [Option.map_some]
  rw [e3.2.2.acc]
end Go.Proofs.YtpmjpogcaglphaaDoor.A
namespace Go.Proofs.YtpmjpogcaglphaaDoor.A
open Go
set_option maxRecDepth 20000
def N0 (w : List Nat) : Nat := w.foldl (fun c m => 5 * c + m + 1) 0
theorem aw6 (w : List Nat) (m : Nat) : N0 (w ++ [m]) = 5 * N0 w + m + 1 := by simp [N0]
structure Ent where
 x : Nat
 y : Nat
 b : Int
 m : Nat
 w : List Nat
def cF1 : Ent := ⟨0, 0, -1, 0, []⟩
def cQ3 (N M : List Int) (i : Nat) (e : Ent) (m : Nat) : Ent := ⟨R3 N e.x m, R3 M e.y m, i, m, e.w ++ [m]⟩
def bu0 (l : List Ent) (e : Ent) : List Ent := if l.any (fun p => p.x == e.x && p.y == e.y) then l else l ++ [e]
structure QMid (N : List Int) (A : List Bool) (M : List Int) (B : List Bool) (i : Nat) (l : List Ent) (c : Nat) : Prop where
 head : l[0]? = some cF1
 back : ∀ (k : Nat) e, l[k]? = some e → 0 < k → ∃ (j : Nat) (f : Ent), e.b = (j : Int) ∧ j < k ∧ e.m < 5 ∧ l[j]? = some f ∧ e.w = f.w ++ [e.m]
 word : ∀ e ∈ l, (∀ z ∈ e.w, z < 5) ∧ goS N 0 e.w = e.x ∧ goS M 0 e.w = e.y
 mono : ∀ (j k : Nat) e f, l[j]? = some e → l[k]? = some f → j < k → N0 e.w < N0 f.w
 top : ∀ e ∈ l, N0 e.w < c
 done : ∀ (k : Nat) e, k < i → l[k]? = some e → A.getD e.x false = B.getD e.y false ∧ ∀ m, m < 5 → ∃ f ∈ l, f.x = R3 N e.x m ∧ f.y = R3 M e.y m ∧ N0 f.w ≤ 5 * N0 e.w + m + 1
 uniq : ∀ (j k : Nat) e f, l[j]? = some e → l[k]? = some f → e.x = f.x → e.y = f.y → j = k
theorem ac9 (N : List Int) : ∀ (w : List Nat) (s m : Nat), goS N s (w ++ [m]) = R3 N (goS N s w) m
 | [], _, _ => rfl
 | a :: w, s, m => by
  rw [List.cons_append, goS, goS]
  exact ac9 N w _ m
theorem ak2 {l : List Ent} {e f : Ent} {k : Nat} (h : l[k]? = some f) : (bu0 l e)[k]? = some f := by
 unfold bu0
 split
 ·exact h
 ·exact W6 h
theorem aX2 {l : List Ent} {e f : Ent} (h : f ∈ l) : f ∈ bu0 l e := by
 unfold bu0
 split
 ·exact h
 ·exact List.mem_append_left _ h
theorem af9 {l : List Ent} {e f : Ent} {k : Nat} (h : (bu0 l e)[k]? = some f) : l[k]? = some f ∨ (k = l.length ∧ f = e ∧ ∀ p ∈ l, ¬ (p.x = e.x ∧ p.y = e.y)) := by
 unfold bu0 at h
 split at h
 ·exact .inl h
 ·rename_i hn
  rcases G8 h with h | ⟨h1, h2⟩
  ·exact .inl h
  ·refine .inr ⟨h1, h2, fun p hp hc => hn ?_⟩
   rw [List.any_eq_true]
   exact ⟨p, hp, by simp [hc.1, hc.2]⟩
theorem bX6 (l : List Ent) (e : Ent) : ∃ f ∈ bu0 l e, f.x = e.x ∧ f.y = e.y ∧ (f ∈ l ∨ f = e) := by
 unfold bu0
 split
 ·rename_i h
  obtain ⟨p, hp, h⟩ := List.any_eq_true.1 h
  simp only [Bool.and_eq_true, beq_iff_eq] at h
  exact ⟨p, hp, h.1, h.2, .inl hp⟩
 ·exact ⟨e, by simp, rfl, rfl, .inr rfl⟩
theorem aX3 {l : List Ent} {e : Ent} {p : Ent → Prop} (h : ∀ f ∈ l, p f) (he : p e) : ∀ f ∈ bu0 l e, p f := by
 unfold bu0
 split
 ·exact h
 ·intro f hf
  rcases List.mem_append.1 hf with hf | hf
  ·exact h f hf
  ·rw [List.mem_singleton.1 hf]; exact he
structure QRow (N : List Int) (A : List Bool) (M : List Int) (B : List Bool) (i : Nat) (e : Ent) (j : Nat) (l : List Ent) : Prop where
 mid : QMid N A M B i l (5 * N0 e.w + j + 1)
 at_ : l[i]? = some e
 acc : A.getD e.x false = B.getD e.y false
 row : ∀ m, m < j → ∃ f ∈ l, f.x = R3 N e.x m ∧ f.y = R3 M e.y m ∧ N0 f.w ≤ 5 * N0 e.w + m + 1
theorem QRow.step {N A M B i e j l} (h : QRow N A M B i e j l) (hj : j < 5) : QRow N A M B i e (j + 1) (bu0 l (cQ3 N M i e j)) := by
 have hw := h.mid.word e (List.mem_of_getElem? h.at_)
 have hc : N0 (cQ3 N M i e j).w = 5 * N0 e.w + j + 1 := aw6 e.w j
 refine ⟨⟨ak2 h.mid.head, fun k f hk hp => ?_, aX3 h.mid.word ⟨fun z hz => ?_, ?_, ?_⟩, fun a b f g hf hg hab => ?_, aX3 (fun f hf => by have := h.mid.top f hf; omega) (by rw [hc]; omega), fun k f hk hf => ?_, fun a b f g hf hg ex ey => ?_⟩, ak2 h.at_, h.acc, fun m hm => ?_⟩
 ·rcases af9 hk with hk | ⟨h1, h2, _⟩
  ·obtain ⟨q, g, e1, e2, e3, e4, e5⟩ := h.mid.back k f hk hp
   exact ⟨q, g, e1, e2, e3, ak2 e4, e5⟩
  ·subst h2
   refine ⟨i, e, rfl, ?_, hj, ak2 h.at_, rfl⟩
   rw [h1]
   exact (List.getElem?_eq_some_iff.1 h.at_).1
 ·have hz : z ∈ e.w ++ [j] := hz
  rcases List.mem_append.1 hz with hz | hz
  ·exact hw.1 z hz
  ·rw [List.mem_singleton.1 hz]; exact hj
 ·show goS N 0 (e.w ++ [j]) = _
  rw [ac9, hw.2.1]; rfl
 ·show goS M 0 (e.w ++ [j]) = _
  rw [ac9, hw.2.2]; rfl
 ·rcases af9 hf with hf | ⟨h1, h2, _⟩ <;> rcases af9 hg with hg | ⟨h1', h2', _⟩
  ·exact h.mid.mono a b f g hf hg hab
  ·rw [h2', hc]
   exact h.mid.top f (List.mem_of_getElem? hf)
  ·have := (List.getElem?_eq_some_iff.1 hg).1
   omega
  ·omega
 ·rcases af9 hf with hf | ⟨h1, _, _⟩
  ·obtain ⟨g1, g2⟩ := h.mid.done k f hk hf
   refine ⟨g1, fun m hm => ?_⟩
   obtain ⟨g, hg, e1, e2, e3⟩ := g2 m hm
   exact ⟨g, aX2 hg, e1, e2, e3⟩
  ·have := (List.getElem?_eq_some_iff.1 h.at_).1
   omega
 ·rcases af9 hf with hf | ⟨h1, h2, h3⟩ <;> rcases af9 hg with hg | ⟨h1', h2', h3'⟩
  ·exact h.mid.uniq a b f g hf hg ex ey
  ·subst h2'
   exact absurd ⟨ex, ey⟩ (h3' f (List.mem_of_getElem? hf))
  ·subst h2
   exact absurd ⟨ex.symm, ey.symm⟩ (h3 g (List.mem_of_getElem? hg))
  ·omega
 ·by_cases hmj : m < j
  ·obtain ⟨g, hg, e1, e2, e3⟩ := h.row m hmj
   exact ⟨g, aX2 hg, e1, e2, e3⟩
  ·have : m = j := by omega
   subst this
   obtain ⟨f, hf, e1, e2, e3⟩ := bX6 l (cQ3 N M i e m)
   refine ⟨f, hf, e1, e2, ?_⟩
   rcases e3 with e3 | e3
   ·have := h.mid.top f e3
    omega
   ·rw [e3, hc]; exact Nat.le_refl _
theorem QMid.weak {N A M B i l c c'} (h : QMid N A M B i l c) (hc : ∀ e ∈ l, N0 e.w < c') : QMid N A M B i l c' := ⟨h.head, h.back, h.word, h.mono, hc, h.done, h.uniq⟩
theorem QRow.next {N A M B i e l} (h : QRow N A M B i e 5 l) : ∀ e', l[i + 1]? = some e' → QMid N A M B (i + 1) l (5 * N0 e'.w + 1) := fun e' he' => by
 refine ⟨h.mid.head, h.mid.back, h.mid.word, h.mid.mono, fun f hf => ?_, fun k f hk hf => ?_, h.mid.uniq⟩
 ·have := h.mid.top f hf
  have := h.mid.mono i (i + 1) e e' h.at_ he' (by omega)
  omega
 ·by_cases hki : k < i
  ·exact h.mid.done k f hki hf
  ·have : k = i := by omega
   subst this
   rw [h.at_] at hf
   injection hf with hf
   subst hf
   exact ⟨h.acc, h.row⟩
theorem QRow.done {N A M B i e l} (h : QRow N A M B i e 5 l) : QMid N A M B (i + 1) l (5 * N0 e.w + 6) := by
 refine ⟨h.mid.head, h.mid.back, h.mid.word, h.mid.mono, h.mid.top, fun k f hk hf => ?_, h.mid.uniq⟩
 by_cases hki : k < i
 ·exact h.mid.done k f hki hf
 ·have : k = i := by omega
  subst this
  rw [h.at_] at hf
  injection hf with hf
  subst hf
  exact ⟨h.acc, h.row⟩
theorem QMid.start (N A M B) : QMid N A M B 0 [cF1] 1 := by
 refine ⟨rfl, fun k e hk hp => ?_, fun e he => ?_, fun j k e f he hf hjk => ?_, fun e he => ?_, fun k e hk => by omega, fun j k e f he hf _ _ => ?_⟩
 ·have := (List.getElem?_eq_some_iff.1 hk).1
  simp at this
  omega
 ·rw [List.mem_singleton.1 he]
  exact ⟨fun z hz => by simp [cF1] at hz, rfl, rfl⟩
 ·have := (List.getElem?_eq_some_iff.1 hf).1
  simp at this
  omega
 ·rw [List.mem_singleton.1 he]
  exact Nat.zero_lt_one
 ·have h1 := (List.getElem?_eq_some_iff.1 he).1
  have h2 := (List.getElem?_eq_some_iff.1 hf).1
  simp at h1 h2
  omega
theorem be4 (w : List Nat) : w = [] ∨ ∃ v m, w = v ++ [m] := by
 rcases List.eq_nil_or_concat w with h | ⟨v, m, h⟩
 ·exact .inl h
 ·exact .inr ⟨v, m, by simpa using h⟩
theorem QMid.leads {N A M B i l c} (h : QMid N A M B i l c) (hi : 0 < i) : ∀ (n : Nat) (u : List Nat), u.length = n → (∀ z ∈ u, z < 5) → (∀ f ∈ l, N0 f.w ≤ N0 u → ∃ k, k < i ∧ l[k]? = some f) → ∃ k e, k < i ∧ l[k]? = some e ∧ e.x = goS N 0 u ∧ e.y = goS M 0 u ∧ N0 e.w ≤ N0 u
 | n, u, hn, hu, hb => by
  rcases be4 u with rfl | ⟨v, m, rfl⟩
  ·exact ⟨0, cF1, hi, h.head, rfl, rfl, Nat.le_refl _⟩
  ·match n, hn with
   | 0, hn => simp at hn
   | n + 1, hn =>
    have hm : m < 5 := hu m (by simp)
    have hc := aw6 v m
    obtain ⟨k, e, h1, h2, h3, h4, h5⟩ := QMid.leads h hi n v (by simpa using hn) (fun z hz => hu z (by simp [hz])) (fun f hf hle => hb f hf (by omega))
    obtain ⟨_, h6⟩ := h.done k e h1 h2
    obtain ⟨f, hf, e1, e2, e3⟩ := h6 m hm
    obtain ⟨k', g1, g2⟩ := hb f hf (by omega)
    exact ⟨k', f, g1, g2, by rw [ac9, e1, h3], by rw [ac9, e2, h4], by omega⟩
def cQ4 (N : List Int) (A : List Bool) (M : List Int) (B : List Bool) : Option (List Nat) → Prop
 | none => Eqv N A M B 0 0
 | some w => (∀ z ∈ w, z < 5) ∧ A.getD (goS N 0 w) false ≠ B.getD (goS M 0 w) false ∧ ∀ u : List Nat, (∀ z ∈ u, z < 5) → N0 u < N0 w → A.getD (goS N 0 u) false = B.getD (goS M 0 u) false
theorem QMid.all {N A M B l c} (h : QMid N A M B l.length l c) : Eqv N A M B 0 0 := fun u hu => by
 have hp : 0 < l.length := (List.getElem?_eq_some_iff.1 h.head).1
 obtain ⟨k, e, h1, h2, h3, h4, _⟩ := h.leads hp _ u rfl hu (fun f hf _ => by
  obtain ⟨k, hk, e⟩ := List.getElem_of_mem hf
  exact ⟨k, hk, by rw [List.getElem?_eq_getElem hk, e]⟩)
 rw [← h3, ← h4]
 exact (h.done k e h1 h2).1
theorem QMid.first {N A M B i l c e} (h : QMid N A M B i l c) (he : l[i]? = some e) (hd : A.getD e.x false ≠ B.getD e.y false) : cQ4 N A M B (some e.w) := by
 obtain ⟨h1, h2, h3⟩ := h.word e (List.mem_of_getElem? he)
 refine ⟨h1, by rw [h2, h3]; exact hd, fun u hu hlt => ?_⟩
 have hi : 0 < i := by
  by_cases hc : 0 < i
  ·exact hc
  ·have : i = 0 := by omega
   subst this
   rw [h.head] at he
   injection he with he
   subst he
   exact absurd hlt (Nat.not_lt_zero _)
 obtain ⟨k, f, g1, g2, g3, g4, _⟩ := h.leads hi _ u rfl hu (fun f hf hle => by
  obtain ⟨k, hk, e2⟩ := List.getElem_of_mem hf
  have hk2 : l[k]? = some f := by rw [List.getElem?_eq_getElem hk, e2]
  refine ⟨k, ?_, hk2⟩
  by_cases hki : k < i
  ·exact hki
  ·by_cases hke : k = i
   ·subst hke
    rw [he] at hk2
    injection hk2 with hk2
    subst hk2
    omega
   ·have := h.mono i k e f he hk2 (by omega)
    omega)
 rw [← g3, ← g4]
 exact (h.done k f g1 g2).1
end Go.Proofs.YtpmjpogcaglphaaDoor.A
