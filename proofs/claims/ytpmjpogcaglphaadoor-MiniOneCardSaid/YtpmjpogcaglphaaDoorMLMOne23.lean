/- The least machine, plainly: classes numbered by the first state of each kind. -/
import Derived.Test.YtpmjpogcaglphaaDoorMLMOne17
set_option linter.unusedVariables false
set_option linter.unusedSimpArgs false
set_option linter.unnecessarySimpa false
namespace Go.Proofs.YtpmjpogcaglphaaDoor.A
open Go
set_option maxRecDepth 20000
def v8 (N : List Int) (c : List Nat) (s : Nat) : List Nat := c.getD s 0 :: (List.range 5).map fun m => c.getD (N.getD (s * 5 + m) 0).toNat 0
def U4 (N : List Int) (c : List Nat) : Nat → List Nat × List Nat
 | 0 => ([], [])
 | i + 1 => match (U4 N c i).1.findIdx? (fun f => v8 N c f == v8 N c i) with
  | some k => ((U4 N c i).1, (U4 N c i).2 ++ [k])
  | none => ((U4 N c i).1 ++ [i], (U4 N c i).2 ++ [(U4 N c i).1.length])
structure FinAt (N : List Int) (c : List Nat) (i : Nat) (F x : List Nat) : Prop where
 len : x.length = i
 most : F.length ≤ i
 in_ : ∀ (k f : Nat), F[k]? = some f → f < i ∧ x[f]? = some k
 rep : ∀ (s k : Nat), x[s]? = some k → ∃ f, F[k]? = some f ∧ v8 N c f = v8 N c s
 one : ∀ (k k' f f' : Nat), F[k]? = some f → F[k']? = some f' → v8 N c f = v8 N c f' → k = k'
theorem I6 {α} {l : List α} {a b : α} {k : Nat} (h : (l ++ [a])[k]? = some b) : l[k]? = some b ∨ (k = l.length ∧ b = a) := by
 by_cases hk : k < l.length
 ·rw [List.getElem?_append_left hk] at h; exact .inl h
 ·rw [List.getElem?_append_right (by omega)] at h
  by_cases hk2 : k = l.length
  ·subst hk2; simp at h; exact .inr ⟨rfl, h.symm⟩
  ·rw [List.getElem?_eq_none (by simp; omega)] at h; cases h
theorem Z0 {α} {l : List α} {a b : α} {k : Nat} (h : l[k]? = some b) : (l ++ [a])[k]? = some b := by
 rw [List.getElem?_append_left (List.getElem?_eq_some_iff.1 h).1]; exact h
theorem ai4 (N : List Int) (c : List Nat) : ∀ i, FinAt N c i (U4 N c i).1 (U4 N c i).2
 | 0 => ⟨rfl, Nat.le_refl _, fun k f h => by simp [U4] at h, fun s k h => by simp [U4] at h, fun k k' f f' h => by simp [U4] at h⟩
 | i + 1 => by
  have ih := ai4 N c i
  rw [U4]
  generalize (U4 N c i).1 = F at *
  generalize (U4 N c i).2 = x at *
  cases hf : F.findIdx? (fun f => v8 N c f == v8 N c i) with
  | some k =>
   obtain ⟨hk, hk2, _⟩ := List.findIdx?_eq_some_iff_getElem.1 hf
   have hk2 : v8 N c F[k] = v8 N c i := by simpa using hk2
   have hgk : F[k]? = some F[k] := List.getElem?_eq_getElem hk
   refine ⟨by simp [ih.len], by have := ih.most; simp; omega, fun q f h => ?_, fun s q h => ?_, ih.one⟩
   ·obtain ⟨h1, h2⟩ := ih.in_ q f h
    exact ⟨by omega, Z0 h2⟩
   ·rcases I6 h with h | ⟨h1, h2⟩
    ·exact ih.rep s q h
    ·rw [ih.len] at h1
     subst h1 h2
     exact ⟨_, hgk, hk2⟩
  | none =>
   have hn : ∀ f ∈ F, v8 N c f ≠ v8 N c i := fun f hf2 e => by
    have := List.findIdx?_eq_none_iff.1 hf f hf2
    rw [e] at this
    simp at this
   have hn2 : ∀ k f, F[k]? = some f → v8 N c f ≠ v8 N c i := fun k f h => hn f (List.mem_of_getElem? h)
   refine ⟨by simp [ih.len], by have := ih.most; simp; omega, fun q f h => ?_, fun s q h => ?_, fun k k' f f' h h' e => ?_⟩
   ·rcases I6 h with h | ⟨h1, h2⟩
    ·obtain ⟨h1, h2⟩ := ih.in_ q f h
     exact ⟨by omega, Z0 h2⟩
    ·subst h1 h2
     exact ⟨by omega, by rw [List.getElem?_append_right (by rw [ih.len]; omega), ih.len]; simp⟩
   ·rcases I6 h with h | ⟨h1, h2⟩
    ·obtain ⟨f, h1, h2⟩ := ih.rep s q h
     exact ⟨f, Z0 h1, h2⟩
    ·rw [ih.len] at h1
     subst h1 h2
     exact ⟨s, by simp, rfl⟩
   ·rcases I6 h with h | ⟨h1, h2⟩ <;> rcases I6 h' with h' | ⟨h1', h2'⟩
    ·exact ih.one k k' f f' h h' e
    ·rw [h2'] at e; exact absurd e (hn2 k f h)
    ·rw [h2] at e; exact absurd e.symm (hn2 k' f' h')
    ·omega
theorem FinAt.iff {N c i F x} (h : FinAt N c i F x) {s t k k' : Nat} (hs : x[s]? = some k) (ht : x[t]? = some k') : k = k' ↔ v8 N c s = v8 N c t := by
 obtain ⟨f, f1, f2⟩ := h.rep s k hs
 obtain ⟨g, g1, g2⟩ := h.rep t k' ht
 constructor
 ·rintro rfl
  rw [f1] at g1
  injection g1 with g1
  rw [← f2, ← g2, g1]
 ·intro e
  exact h.one k k' f g f1 g1 (by rw [f2, g2, e])
set_option maxRecDepth 20000
theorem FinAt.lt {N c i F x} (h : FinAt N c i F x) {s k : Nat} (hs : x[s]? = some k) : s < i ∧ k < F.length := by
 obtain ⟨f, f1, _⟩ := h.rep s k hs
 have := (List.getElem?_eq_some_iff.1 hs).1
 exact ⟨by rw [← h.len]; exact this, (List.getElem?_eq_some_iff.1 f1).1⟩
theorem FinAt.get {N c i F x} (h : FinAt N c i F x) {s : Nat} (hs : s < i) : ∃ k, x[s]? = some k := ⟨_, List.getElem?_eq_getElem (by rw [h.len]; exact hs)⟩
theorem at5 {N : List Int} {c : List Nat} {s t : Nat} (h : v8 N c s = v8 N c t) : c.getD s 0 = c.getD t 0 := by
 unfold v8 at h
 exact (List.cons.inj h).1
theorem bx8 {N : List Int} {c : List Nat} {s t m : Nat} (h : v8 N c s = v8 N c t) (hm : m < 5) : c.getD (N.getD (s * 5 + m) 0).toNat 0 = c.getD (N.getD (t * 5 + m) 0).toNat 0 := by
 unfold v8 at h
 have h := (List.cons.inj h).2
 have h2 := congrArg (fun l : List Nat => l[m]?) h
 simpa [List.getElem?_map, List.getElem?_range hm] using h2
theorem C7 {l : List Nat} {s k : Nat} (h : l[s]? = some k) : l.getD s 0 = k := by simp [List.getD, h]
theorem FinAt.grow {N c i F x F' x'} (h : FinAt N c i F x) (h' : FinAt N x i F' x') : F.length ≤ F'.length ∧ (F.length = F'.length → ∀ s t k : Nat, x[s]? = some k → x[t]? = some k → x'[s]? = x'[t]?) := by
 obtain ⟨L, hL⟩ : ∃ L : List Nat, L = (List.range F.length).map (fun k => x'.getD (F.getD k 0) 0) := ⟨_, rfl⟩
 have hLl : L.length = F.length := by rw [hL]; simp
 have hat : ∀ k, k < F.length → ∃ f k', F[k]? = some f ∧ x[f]? = some k ∧ x'[f]? = some k' ∧ x'.getD (F.getD k 0) 0 = k' := fun k hk => by
  have e := List.getElem?_eq_getElem hk
  obtain ⟨h1, h2⟩ := h.in_ k _ e
  obtain ⟨k', h3⟩ := h'.get h1
  refine ⟨_, k', e, h2, h3, ?_⟩
  rw [C7 e, C7 h3]
 have hinj : ∀ k l, k < F.length → l < F.length → x'.getD (F.getD k 0) 0 = x'.getD (F.getD l 0) 0 → k = l := fun k l hk hl e => by
  obtain ⟨f, k', a1, a2, a3, a4⟩ := hat k hk
  obtain ⟨g, l', b1, b2, b3, b4⟩ := hat l hl
  have e2 := at5 ((h'.iff a3 b3).1 (by rw [← a4, ← b4, e]))
  rwa [C7 a2, C7 b2] at e2
 have hnd : L.Nodup := by
  rw [hL]
  unfold List.Nodup
  rw [List.pairwise_map]
  refine List.Pairwise.imp_of_mem ?_ List.nodup_range
  intro a b ha hb hab e
  exact hab (hinj a b (List.mem_range.1 ha) (List.mem_range.1 hb) e)
 have hsub : ∀ y ∈ L, y < F'.length := fun y hy => by
  rw [hL] at hy
  obtain ⟨k, hk, rfl⟩ := List.mem_map.1 hy
  obtain ⟨f, k', a1, a2, a3, a4⟩ := hat k (List.mem_range.1 hk)
  rw [a4]
  exact (h'.lt a3).2
 refine ⟨?_, fun he => ?_⟩
 ·have := List.Nodup.length_le_of_subset hnd (l₂ := List.range F'.length) (fun y hy => List.mem_range.2 (hsub y hy))
  rw [List.length_range] at this
  omega
 ·have key : ∀ s k : Nat, x[s]? = some k → ∃ k', x'[s]? = some k' ∧ k' = x'.getD (F.getD k 0) 0 := fun s k hs => by
   obtain ⟨k', hk'⟩ := h'.get (h.lt hs).1
   have hk2 := (h'.lt hk').2
   by_cases hm : k' ∈ L
   ·rw [hL] at hm
    obtain ⟨q, hq, hq2⟩ := List.mem_map.1 hm
    obtain ⟨f, q', a1, a2, a3, a4⟩ := hat q (List.mem_range.1 hq)
    have e2 := at5 ((h'.iff a3 hk').1 (by rw [← a4]; exact hq2))
    rw [C7 a2, C7 hs] at e2
    subst e2
    exact ⟨k', hk', hq2.symm⟩
   ·have := List.Nodup.length_le_of_subset (l₁ := k' :: L) (l₂ := List.range F'.length) (List.nodup_cons.2 ⟨hm, hnd⟩) (fun y hy => by
     rcases List.mem_cons.1 hy with rfl | hy
     ·exact List.mem_range.2 hk2
     ·exact List.mem_range.2 (hsub y hy))
    rw [List.length_range, List.length_cons] at this
    omega
  intro s t k hs ht
  obtain ⟨a, a1, a2⟩ := key s k hs
  obtain ⟨b, b1, b2⟩ := key t k ht
  rw [a1, b1, a2, b2]
set_option maxRecDepth 20000
def am0 (N : List Int) (len : Nat) : Nat → List Nat → Nat → Option (List Nat)
 | 0, _, _ => none
 | r + 1, c, n => if (U4 N c len).1.length = n then some (U4 N c len).2 else am0 N len r (U4 N c len).2 (U4 N c len).1.length
def Ended (N : List Int) (len : Nat) (x : List Nat) : Prop := ∃ c2 F1 c1 F2, FinAt N c2 len F1 c1 ∧ FinAt N c1 len F2 x ∧ F1.length = F2.length
theorem bx9 {N : List Int} {len : Nat} (P : List Nat → Prop) (hP : ∀ c, c.length = len → P c → P (U4 N c len).2) : ∀ (r : Nat) (c0 F c : List Nat), FinAt N c0 len F c → P c → len + 1 - F.length ≤ r → ∃ x, am0 N len r c F.length = some x ∧ P x ∧ Ended N len x
 | 0, c0, F, c, h, _, hr => by
  have := h.most
  omega
 | r + 1, c0, F, c, h, hc, hr => by
  have h' := ai4 N c len
  have hg := (h.grow h').1
  rw [am0]
  by_cases he : (U4 N c len).1.length = F.length
  ·rw [if_pos he]
   exact ⟨_, rfl, hP c h.len hc, c0, F, c, _, h, h', he.symm⟩
  ·rw [if_neg he]
   exact bx9 P hP r c _ _ h' (hP c h.len hc) (by omega)
theorem bO7 {N : List Int} {len : Nat} (hl : 1 ≤ len) (P : List Nat → Prop) (hP : ∀ c, c.length = len → P c → P (U4 N c len).2) (c : List Nat) (hcl : c.length = len) (hc : P c) : ∃ x, am0 N len (len + 2) c 0 = some x ∧ P x ∧ Ended N len x := by
 have h' := ai4 N c len
 obtain ⟨k, hk⟩ := h'.get (s := 0) (by omega)
 have hpos := (h'.lt hk).2
 rw [am0, if_neg (by omega)]
 exact bx9 P hP (len + 1) c _ _ h' (hP c hcl hc) (by omega)
theorem Ended.same {N len x} (h : Ended N len x) {s t k : Nat} (hN : ∀ i, i < 5 * len → 0 ≤ N.getD i 0 ∧ N.getD i 0 < len) (hs : x[s]? = some k) (ht : x[t]? = some k) {m : Nat} (hm : m < 5) : x[(N.getD (s * 5 + m) 0).toNat]? = x[(N.getD (t * 5 + m) 0).toNat]? := by
 obtain ⟨c2, F1, c1, F2, h1, h2, he⟩ := h
 have hs2 := (h2.lt hs).1
 have ht2 := (h2.lt ht).1
 have e := bx8 ((h2.iff hs ht).1 rfl) hm
 have a := hN (s * 5 + m) (by omega)
 have b := hN (t * 5 + m) (by omega)
 obtain ⟨p, hp⟩ := h1.get (s := (N.getD (s * 5 + m) 0).toNat) (by omega)
 obtain ⟨q, hq⟩ := h1.get (s := (N.getD (t * 5 + m) 0).toNat) (by omega)
 rw [C7 hp, C7 hq] at e
 exact (h1.grow h2).2 he _ _ p hp (e ▸ hq)
set_option maxRecDepth 20000
def goS (N : List Int) : Nat → List Nat → Nat
 | s, [] => s
 | s, m :: w => goS N (N.getD (s * 5 + m) 0).toNat w
def Agree (A : List Bool) (len : Nat) (c : List Nat) : Prop := ∀ s t : Nat, s < len → t < len → c.getD s 0 = c.getD t 0 → A.getD s false = A.getD t false
def Told (N : List Int) (A : List Bool) (len : Nat) (c : List Nat) : Prop := ∀ s t : Nat, s < len → t < len → c.getD s 0 ≠ c.getD t 0 → ∃ w : List Nat, (∀ m ∈ w, m < 5) ∧ A.getD (goS N s w) false ≠ A.getD (goS N t w) false
theorem Agree.step {N : List Int} {A : List Bool} {len : Nat} {c : List Nat} (h : Agree A len c) : Agree A len (U4 N c len).2 := fun s t hs ht e => by
 have h' := ai4 N c len
 obtain ⟨k, hk⟩ := h'.get hs
 obtain ⟨l, hl⟩ := h'.get ht
 rw [C7 hk, C7 hl] at e
 exact h s t hs ht (at5 ((h'.iff hk hl).1 e))
theorem aS7 {N : List Int} {c : List Nat} {s t : Nat} (h : v8 N c s ≠ v8 N c t) : c.getD s 0 ≠ c.getD t 0 ∨ ∃ m, m < 5 ∧ c.getD (N.getD (s * 5 + m) 0).toNat 0 ≠ c.getD (N.getD (t * 5 + m) 0).toNat 0 := by
 by_cases h0 : c.getD s 0 = c.getD t 0
 ·refine .inr ?_
  by_cases hx : ∀ m, m < 5 → c.getD (N.getD (s * 5 + m) 0).toNat 0 = c.getD (N.getD (t * 5 + m) 0).toNat 0
  ·refine absurd ?_ h
   unfold v8
   rw [h0]
   refine congrArg (_ :: ·) (List.map_congr_left fun m hm => hx m (List.mem_range.1 hm))
  ·obtain ⟨m, hm⟩ := Classical.not_forall.1 hx
   obtain ⟨h1, h2⟩ := Classical.not_imp.1 hm
   exact ⟨m, h1, h2⟩
 ·exact .inl h0
theorem Told.step {N : List Int} {A : List Bool} {len : Nat} {c : List Nat} (hN : ∀ i, i < 5 * len → 0 ≤ N.getD i 0 ∧ N.getD i 0 < len) (h : Told N A len c) : Told N A len (U4 N c len).2 := fun s t hs ht e => by
 have h' := ai4 N c len
 obtain ⟨k, hk⟩ := h'.get hs
 obtain ⟨l, hl⟩ := h'.get ht
 rw [C7 hk, C7 hl] at e
 rcases aS7 (fun e2 => e ((h'.iff hk hl).2 e2)) with h0 | ⟨m, hm, h0⟩
 ·exact h s t hs ht h0
 ·have a := hN (s * 5 + m) (by omega)
  have b := hN (t * 5 + m) (by omega)
  obtain ⟨w, w1, w2⟩ := h (N.getD (s * 5 + m) 0).toNat (N.getD (t * 5 + m) 0).toNat (by omega) (by omega) h0
  refine ⟨m :: w, fun y hy => ?_, w2⟩
  rcases List.mem_cons.1 hy with rfl | hy
  ·exact hm
  ·exact w1 y hy
def at6 (A : List Bool) : List Nat := A.map fun b => if b then 1 else 0
theorem an0 {A : List Bool} {s : Nat} (h : s < A.length) : (at6 A).getD s 0 = if A.getD s false then 1 else 0 := by
 simp [at6, List.getD, h]
theorem bi1 (A : List Bool) : Agree A A.length (at6 A) := fun s t hs ht e => by
 rw [an0 hs, an0 ht] at e
 cases h1 : A.getD s false <;> cases h2 : A.getD t false <;> simp_all
theorem by0 (N : List Int) (A : List Bool) : Told N A A.length (at6 A) := fun s t hs ht e => by
 refine ⟨[], ⟨fun y hy => (List.not_mem_nil hy).elim, fun e2 => e ?_⟩⟩
 rw [an0 hs, an0 ht]
 change A.getD s false = A.getD t false at e2
 rw [e2]
theorem bi2 {N : List Int} {A : List Bool} (hl : 1 ≤ A.length) (hN : ∀ i, i < 5 * A.length → 0 ≤ N.getD i 0 ∧ N.getD i 0 < A.length) : ∃ x, am0 N A.length (A.length + 2) (at6 A) 0 = some x ∧ Agree A A.length x ∧ Told N A A.length x ∧ Ended N A.length x := by
 obtain ⟨x, h1, ⟨h2, h3⟩, h4⟩ := bO7 (N := N) hl (fun c => Agree A A.length c ∧ Told N A A.length c) (fun c _ h => ⟨h.1.step, h.2.step hN⟩) (at6 A) (by simp [at6]) ⟨bi1 A, by0 N A⟩
 exact ⟨x, h1, h2, h3, h4⟩
set_option maxRecDepth 20000
def aL3 (cl : Nat → Nat) (L : List Nat) (to : Nat) : Nat × List Nat :=
 match L.findIdx? (fun s => cl s == cl to) with
 | some k => (k, L)
 | none => (L.length, L ++ [to])
def O5 (cl : Nat → Nat) (nx : Nat → Nat → Nat) (x : Nat) : Nat → List Nat → List Nat × List Nat
 | 0, L => ([], L)
 | j + 1, L => ((O5 cl nx x j L).1 ++ [(aL3 cl (O5 cl nx x j L).2 (nx x j)).1], (aL3 cl (O5 cl nx x j L).2 (nx x j)).2)
def aD9 (cl : Nat → Nat) (L : List Nat) : Prop := ∀ i j s t : Nat, L[i]? = some s → L[j]? = some t → cl s = cl t → i = j
theorem ch3 {cl : Nat → Nat} {L : List Nat} (h : aD9 cl L) (to : Nat) : aD9 cl (aL3 cl L to).2 ∧ (∀ i s : Nat, L[i]? = some s → (aL3 cl L to).2[i]? = some s) ∧ ∃ s, (aL3 cl L to).2[(aL3 cl L to).1]? = some s ∧ cl s = cl to := by
 unfold aL3
 cases hf : L.findIdx? (fun s => cl s == cl to) with
 | some k =>
  obtain ⟨hk, hk2, _⟩ := List.findIdx?_eq_some_iff_getElem.1 hf
  exact ⟨h, fun i s hs => hs, _, List.getElem?_eq_getElem hk, by simpa using hk2⟩
 | none =>
  have hn : ∀ (k s : Nat), L[k]? = some s → cl s ≠ cl to := fun k s hs e => by
   have := List.findIdx?_eq_none_iff.1 hf s (List.mem_of_getElem? hs)
   rw [e] at this
   simp at this
  refine ⟨fun i j s t hs ht e => ?_, fun i s hs => Z0 hs, to, by simp, rfl⟩
  rcases I6 hs with hs | ⟨h1, h2⟩ <;> rcases I6 ht with ht | ⟨h1', h2'⟩
  ·exact h i j s t hs ht e
  ·rw [h2'] at e; exact absurd e (hn i s hs)
  ·rw [h2] at e; exact absurd e.symm (hn j t ht)
  ·omega
theorem aE0 {cl : Nat → Nat} {nx : Nat → Nat → Nat} {x : Nat} {L : List Nat} (h : aD9 cl L) : ∀ j : Nat, aD9 cl (O5 cl nx x j L).2 ∧ (∀ i s : Nat, L[i]? = some s → (O5 cl nx x j L).2[i]? = some s) ∧ (O5 cl nx x j L).1.length = j ∧ ∀ m : Nat, m < j → ∃ k s : Nat, (O5 cl nx x j L).1[m]? = some k ∧ (O5 cl nx x j L).2[k]? = some s ∧ cl s = cl (nx x m)
 | 0 => ⟨h, fun _ _ hs => hs, rfl, fun m hm => by omega⟩
 | j + 1 => by
  obtain ⟨h1, h2, h3, h4⟩ := aE0 h j
  rw [O5]
  generalize (O5 cl nx x j L).1 = R at *
  generalize (O5 cl nx x j L).2 = M at *
  obtain ⟨g1, g2, s, g3, g4⟩ := ch3 h1 (nx x j)
  refine ⟨g1, fun i s hs => g2 i s (h2 i s hs), by simp [h3], fun m hm => ?_⟩
  by_cases hmj : m < j
  ·obtain ⟨k, t, e1, e2, e3⟩ := h4 m hmj
   exact ⟨k, t, Z0 e1, g2 k t e2, e3⟩
  ·have : m = j := by omega
   subst this
   exact ⟨_, s, by show (R ++ [_])[m]? = _; rw [List.getElem?_append_right (by omega), h3]; simp, g3, g4⟩
def goC (cl : Nat → Nat) (nx : Nat → Nat → Nat) : Nat → Nat → List Nat → List Nat → Option (List Nat × List Nat)
 | 0, _, _, _ => none
 | r + 1, i, L, R => match L[i]? with
  | none => some (L, R)
  | some x => goC cl nx r (i + 1) (O5 cl nx x 5 L).2 (R ++ (O5 cl nx x 5 L).1)
structure MidC (cl : Nat → Nat) (nx : Nat → Nat → Nat) (i : Nat) (L R : List Nat) : Prop where
 dist : aD9 cl L
 le : i ≤ L.length
 len : R.length = i * 5
 row : ∀ a m : Nat, a < i → m < 5 → ∃ x k s : Nat, L[a]? = some x ∧ R[a * 5 + m]? = some k ∧ L[k]? = some s ∧ cl s = cl (nx x m)
theorem ch4 {l r : List Nat} {k b : Nat} (h : l[k]? = some b) : (l ++ r)[k]? = some b := by
 rw [List.getElem?_append_left (List.getElem?_eq_some_iff.1 h).1]; exact h
theorem by1 {cl : Nat → Nat} {nx : Nat → Nat → Nat} : ∀ (r i : Nat) (L R : List Nat), MidC cl nx i L R → ∀ p, goC cl nx r i L R = some p → MidC cl nx p.1.length p.1 p.2 ∧ ∀ a s : Nat, L[a]? = some s → p.1[a]? = some s
 | 0, i, L, R, _, p, hp => by cases hp
 | r + 1, i, L, R, h, p, hp => by
  rw [goC] at hp
  cases hx : L[i]? with
  | none =>
   rw [hx] at hp
   injection hp with hp
   subst hp
   have h1 := List.getElem?_eq_none_iff.1 hx
   have h2 := h.le
   have : i = L.length := by omega
   subst this
   exact ⟨h, fun a s hs => hs⟩
  | some x =>
   rw [hx] at hp
   have hp : goC cl nx r (i + 1) (O5 cl nx x 5 L).2 (R ++ (O5 cl nx x 5 L).1) = some p := hp
   obtain ⟨h1, h2, h3, h4⟩ := aE0 (nx := nx) (x := x) h.dist 5
   have hx2 := h2 i x hx
   have hl := h.len
   obtain ⟨g1, g2⟩ := by1 r (i + 1) _ _ ⟨h1, (List.getElem?_eq_some_iff.1 hx2).1, by rw [List.length_append, h3, hl]; omega, fun a m ha hm => by
    by_cases hai : a < i
    ·obtain ⟨y, k, s, e1, e2, e3, e4⟩ := h.row a m hai hm
     exact ⟨y, k, s, h2 a y e1, ch4 e2, h2 k s e3, e4⟩
    ·have : a = i := by omega
     subst this
     obtain ⟨k, s, e1, e2, e3⟩ := h4 m hm
     exact ⟨x, k, s, hx2, by rw [List.getElem?_append_right (by omega), hl, show a * 5 + m - a * 5 = m by omega]; exact e1, e2, e3⟩⟩ p hp
   exact ⟨g1, fun a s hs => g2 a s (h2 a s hs)⟩
theorem ae8 {cl : Nat → Nat} {n : Nat} (hc : ∀ s, cl s < n) {L : List Nat} (h : aD9 cl L) : L.length ≤ n := by
 have hnd : (L.map cl).Nodup := by
  unfold List.Nodup
  rw [List.pairwise_map, List.pairwise_iff_getElem]
  intro i j hi hj hij e
  have := h i j _ _ (List.getElem?_eq_getElem hi) (List.getElem?_eq_getElem hj) e
  omega
 have := List.Nodup.length_le_of_subset hnd (l₂ := List.range n) (fun y hy => by
  obtain ⟨s, _, rfl⟩ := List.mem_map.1 hy
  exact List.mem_range.2 (hc s))
 rwa [List.length_map, List.length_range] at this
theorem ba3 {cl : Nat → Nat} {nx : Nat → Nat → Nat} {n : Nat} (hc : ∀ s, cl s < n) : ∀ (r i : Nat) (L R : List Nat), aD9 cl L → i ≤ L.length → n + 1 - i ≤ r → ∃ p, goC cl nx r i L R = some p
 | 0, i, L, R, h, hi, hr => by
  have := ae8 hc h
  omega
 | r + 1, i, L, R, h, hi, hr => by
  rw [goC]
  cases hx : L[i]? with
  | none => exact ⟨_, rfl⟩
  | some x =>
   obtain ⟨h1, h2, _, _⟩ := aE0 (nx := nx) (x := x) h 5
   have := (List.getElem?_eq_some_iff.1 (h2 i x hx)).1
   exact ba3 hc r (i + 1) _ _ h1 this (by omega)
set_option maxRecDepth 20000
theorem Ended.get {N len x} (h : Ended N len x) {s : Nat} (hs : s < len) : ∃ k, x[s]? = some k := by
 obtain ⟨c2, F1, c1, F2, h1, h2, he⟩ := h
 exact h2.get hs
theorem by2 {N : List Int} {len : Nat} {x L R : List Nat} (hE : Ended N len x) (hN : ∀ i, i < 5 * len → 0 ≤ N.getD i 0 ∧ N.getD i 0 < len) (hL : ∀ a s : Nat, L[a]? = some s → s < len)
  (h : MidC (fun s => x.getD s 0) (fun s m => (N.getD (s * 5 + m) 0).toNat) L.length L R) : ∀ (w : List Nat) (a s s0 : Nat), (∀ m ∈ w, m < 5) → L[a]? = some s → s0 < len → x[s]? = x[s0]? → ∃ t, L[goS (R.map fun k : Nat => (k : Int)) a w]? = some t ∧ x[t]? = x[goS N s0 w]?
 | [], a, s, s0, _, hs, _, he => ⟨s, hs, he⟩
 | m :: w, a, s, s0, hw, hs, h0, he => by
  have hm := hw m (List.mem_cons_self ..)
  have hsl := hL a s hs
  obtain ⟨y, k, t, e1, e2, e3, e4⟩ := h.row a m (List.getElem?_eq_some_iff.1 hs).1 hm
  rw [hs] at e1
  injection e1 with e1
  subst e1
  have htl := hL k t e3
  have b1 := hN (s * 5 + m) (by omega)
  have b2 := hN (s0 * 5 + m) (by omega)
  obtain ⟨p, hp⟩ := hE.get htl
  obtain ⟨q, hq⟩ := hE.get (s := (N.getD (s * 5 + m) 0).toNat) (by omega)
  have e4 : x.getD t 0 = x.getD (N.getD (s * 5 + m) 0).toNat 0 := e4
  rw [C7 hp, C7 hq] at e4
  obtain ⟨c, hc⟩ := hE.get hsl
  have e5 := hE.same hN hc (he ▸ hc) hm
  have e6 : (R.map fun k : Nat => (k : Int)).getD (a * 5 + m) 0 = k := by simp [List.getD, e2]
  obtain ⟨u, u1, u2⟩ := by2 hE hN hL h w k t (N.getD (s0 * 5 + m) 0).toNat (fun z hz => hw z (List.mem_cons_of_mem _ hz)) e3 (by omega) (by rw [hp, ← e5, hq, e4])
  refine ⟨u, ?_, u2⟩
  rw [goS, e6]
  exact u1
theorem bO8 {cl : Nat → Nat} {L : List Nat} {to : Nat} {p : Nat → Prop} (h : ∀ s ∈ L, p s) (ht : p to) : ∀ s ∈ (aL3 cl L to).2, p s := by
 unfold aL3
 cases L.findIdx? (fun s => cl s == cl to) with
 | some k => exact h
 | none =>
  intro s hs
  rcases List.mem_append.1 hs with hs | hs
  ·exact h s hs
  ·rw [List.mem_singleton.1 hs]; exact ht
theorem aE1 {cl : Nat → Nat} {nx : Nat → Nat → Nat} {x : Nat} {L : List Nat} {p : Nat → Prop} (h : ∀ s ∈ L, p s) : ∀ j : Nat, (∀ m, m < j → p (nx x m)) → ∀ s ∈ (O5 cl nx x j L).2, p s
 | 0, _ => h
 | j + 1, hn => by
  rw [O5]
  exact bO8 (aE1 h j (fun m hm => hn m (by omega))) (hn j (by omega))
theorem by3 {cl : Nat → Nat} {nx : Nat → Nat → Nat} {p : Nat → Prop} (hn : ∀ x m, p x → m < 5 → p (nx x m)) : ∀ (r i : Nat) (L R : List Nat), (∀ s ∈ L, p s) → ∀ q, goC cl nx r i L R = some q → ∀ s ∈ q.1, p s
 | 0, i, L, R, _, q, hq => by cases hq
 | r + 1, i, L, R, h, q, hq => by
  rw [goC] at hq
  cases hx : L[i]? with
  | none =>
   rw [hx] at hq
   injection hq with hq
   subst hq
   exact h
  | some x =>
   rw [hx] at hq
   have hq : goC cl nx r (i + 1) (O5 cl nx x 5 L).2 (R ++ (O5 cl nx x 5 L).1) = some q := hq
   exact by3 hn r (i + 1) _ _ (aE1 h 5 (fun m hm => hn x m (h x (List.mem_of_getElem? hx)) hm)) q hq
set_option maxRecDepth 20000
def Eqv (N : List Int) (A : List Bool) (M : List Int) (B : List Bool) (s t : Nat) : Prop := ∀ w : List Nat, (∀ m ∈ w, m < 5) → A.getD (goS N s w) false = B.getD (goS M t w) false
theorem Eqv.symm {N A M B s t} (h : Eqv N A M B s t) : Eqv M B N A t s := fun w hw => (h w hw).symm
theorem Eqv.trans {N A M B K C s t u} (h : Eqv N A M B s t) (h' : Eqv M B K C t u) : Eqv N A K C s u := fun w hw => (h w hw).trans (h' w hw)
theorem Eqv.next {N A M B s t m} (h : Eqv N A M B s t) (hm : m < 5) : Eqv N A M B (N.getD (s * 5 + m) 0).toNat (M.getD (t * 5 + m) 0).toNat := fun w hw => by
 have := h (m :: w) (fun y hy => by
  rcases List.mem_cons.1 hy with rfl | hy
  ·exact hm
  ·exact hw y hy)
 exact this
theorem Eqv.acc {N A M B s t} (h : Eqv N A M B s t) : A.getD s false = B.getD t false := h [] (fun y hy => (List.not_mem_nil hy).elim)
structure OkD (N : List Int) (A : List Bool) : Prop where
 l : 1 ≤ A.length
 e : ∀ i, i < 5 * A.length → 0 ≤ N.getD i 0 ∧ N.getD i 0 < A.length
theorem OkD.next {N A} (h : OkD N A) {s m : Nat} (hs : s < A.length) (hm : m < 5) : (N.getD (s * 5 + m) 0).toNat < A.length := by
 have := h.e (s * 5 + m) (by omega)
 omega
theorem OkD.go {N A} (h : OkD N A) : ∀ (w : List Nat) (s : Nat), (∀ m ∈ w, m < 5) → s < A.length → goS N s w < A.length
 | [], s, _, hs => hs
 | m :: w, s, hw, hs => h.go w _ (fun y hy => hw y (List.mem_cons_of_mem _ hy)) (h.next hs (hw m (List.mem_cons_self ..)))
theorem ch5 {N A x} (h : OkD N A) (h1 : Agree A A.length x) (h2 : Told N A A.length x) (h3 : Ended N A.length x) {s t : Nat} (hs : s < A.length) (ht : t < A.length) : x.getD s 0 = x.getD t 0 ↔ Eqv N A N A s t := by
 constructor
 ·intro e w
  induction w generalizing s t with
  | nil => exact fun _ => h1 s t hs ht e
  | cons m w ih =>
   intro hw
   have hm := hw m (List.mem_cons_self ..)
   obtain ⟨k, hk⟩ := h3.get hs
   obtain ⟨l, hl⟩ := h3.get ht
   rw [C7 hk, C7 hl] at e
   subst e
   have e2 := h3.same h.e hk hl hm
   refine ih (h.next hs hm) (h.next ht hm) ?_ (fun y hy => hw y (List.mem_cons_of_mem _ hy))
   exact congrArg (fun o : Option Nat => o.getD 0) e2
 ·intro he
  by_cases e : x.getD s 0 = x.getD t 0
  ·exact e
  ·obtain ⟨w, w1, w2⟩ := h2 s t hs ht e
   exact absurd (he w w1) w2
def Rl (E : Nat → Nat → Prop) (L L' : List Nat) : Prop := L.length = L'.length ∧ ∀ i s s' : Nat, L[i]? = some s → L'[i]? = some s' → E s s'
theorem Rl.snoc {E : Nat → Nat → Prop} {L L' : List Nat} (h : Rl E L L') {s s' : Nat} (hs : E s s') : Rl E (L ++ [s]) (L' ++ [s']) := by
 refine ⟨by simp [h.1], fun i a a' ha ha' => ?_⟩
 rcases I6 ha with ha | ⟨h1, h2⟩ <;> rcases I6 ha' with ha' | ⟨h1', h2'⟩
 ·exact h.2 i a a' ha ha'
 ·have := (List.getElem?_eq_some_iff.1 ha).1
  have := h.1
  omega
 ·have := (List.getElem?_eq_some_iff.1 ha').1
  have := h.1
  omega
 ·rw [h2, h2']; exact hs
theorem Rl.get {E : Nat → Nat → Prop} {L L' : List Nat} (h : Rl E L L') (i : Nat) : (L[i]? = none ∧ L'[i]? = none) ∨ ∃ s s', L[i]? = some s ∧ L'[i]? = some s' ∧ E s s' := by
 have hl := h.1
 by_cases hi : i < L.length
 ·have e1 := List.getElem?_eq_getElem hi
  have e2 := List.getElem?_eq_getElem (l := L') (i := i) (by omega)
  exact .inr ⟨_, _, e1, e2, h.2 _ _ _ e1 e2⟩
 ·exact .inl ⟨List.getElem?_eq_none (by omega), List.getElem?_eq_none (by omega)⟩
section
variable {cl cl' : Nat → Nat} {nx nx' : Nat → Nat → Nat} {E : Nat → Nat → Prop} (h1 : ∀ s s' t t', E s s' → E t t' → (cl s = cl t ↔ cl' s' = cl' t')) (h2 : ∀ s s' m, m < 5 → E s s' → E (nx s m) (nx' s' m))
include h1 in
theorem by4 {L L' : List Nat} (hL : Rl E L L') {to to' : Nat} (ht : E to to') : (aL3 cl L to).1 = (aL3 cl' L' to').1 ∧ Rl E (aL3 cl L to).2 (aL3 cl' L' to').2 := by
 have he : L.findIdx? (fun s => cl s == cl to) = L'.findIdx? (fun s => cl' s == cl' to') := by
  have e : L.map (fun s => cl s == cl to) = L'.map (fun s => cl' s == cl' to') := by
   refine List.ext_getElem? fun i => ?_
   rw [List.getElem?_map, List.getElem?_map]
   rcases hL.get i with ⟨e1, e2⟩ | ⟨s, s', e1, e2, e3⟩
   ·rw [e1, e2]; rfl
   ·rw [e1, e2]
    have := h1 s s' to to' e3 ht
    simp only [Option.map_some, Option.some.injEq]
    rw [Bool.eq_iff_iff]
    simpa using this
  have e3 := congrArg (List.findIdx? id) e
  rw [List.findIdx?_map, List.findIdx?_map] at e3
  exact e3
 unfold aL3
 rw [he]
 cases L'.findIdx? (fun s => cl' s == cl' to') with
 | some k => exact ⟨rfl, hL⟩
 | none => exact ⟨hL.1, hL.snoc ht⟩
include h1 h2 in
theorem aL4 {L L' : List Nat} (hL : Rl E L L') {x x' : Nat} (hx : E x x') : ∀ j, j ≤ 5 → (O5 cl nx x j L).1 = (O5 cl' nx' x' j L').1 ∧ Rl E (O5 cl nx x j L).2 (O5 cl' nx' x' j L').2
 | 0, _ => ⟨rfl, hL⟩
 | j + 1, hj => by
  obtain ⟨i1, i2⟩ := aL4 hL hx j (by omega)
  obtain ⟨g1, g2⟩ := by4 h1 i2 (h2 x x' j (by omega) hx)
  rw [O5, O5]
  exact ⟨by rw [i1, g1], g2⟩
include h1 h2 in
theorem ba4 : ∀ (r r' i : Nat) (L L' R : List Nat) (p p' : List Nat × List Nat), Rl E L L' → goC cl nx r i L R = some p → goC cl' nx' r' i L' R = some p' → Rl E p.1 p'.1 ∧ p.2 = p'.2
 | 0, _, _, _, _, _, _, _, _, h, _ => by cases h
 | r + 1, 0, _, _, _, _, _, _, _, _, h => by cases h
 | r + 1, r' + 1, i, L, L', R, p, p', hL, h, h' => by
  rw [goC] at h h'
  rcases hL.get i with ⟨e1, e2⟩ | ⟨s, s', e1, e2, e3⟩
  ·rw [e1] at h
   rw [e2] at h'
   injection h with h
   injection h' with h'
   subst h h'
   exact ⟨hL, rfl⟩
  ·rw [e1] at h
   rw [e2] at h'
   have h : goC cl nx r (i + 1) (O5 cl nx s 5 L).2 (R ++ (O5 cl nx s 5 L).1) = some p := h
   have h' : goC cl' nx' r' (i + 1) (O5 cl' nx' s' 5 L').2 (R ++ (O5 cl' nx' s' 5 L').1) = some p' := h'
   obtain ⟨g1, g2⟩ := aL4 h1 h2 hL e3 5 (Nat.le_refl _)
   rw [← g1] at h'
   exact ba4 r r' (i + 1) _ _ _ p p' g2 h h'
end
def R6 (N : List Int) (A : List Bool) : List Nat := (am0 N A.length (A.length + 2) (at6 A) 0).getD []
def T7 (N : List Int) (s m : Nat) : Nat := (N.getD (s * 5 + m) 0).toNat
def Q5 (N : List Int) (A : List Bool) : List Nat × List Nat := (goC (fun s => (R6 N A).getD s 0) (T7 N) (A.length + 2) 0 [0] []).getD ([], [])
def aa1 (N : List Int) (A : List Bool) : List Int := (Q5 N A).2.map fun k : Nat => (k : Int)
def O3 (N : List Int) (A : List Bool) : List Bool := (Q5 N A).1.map fun s => A.getD s false
theorem ae9 {N A} (h : OkD N A) : am0 N A.length (A.length + 2) (at6 A) 0 = some (R6 N A) ∧ Agree A A.length (R6 N A) ∧ Told N A A.length (R6 N A) ∧ Ended N A.length (R6 N A) := by
 obtain ⟨x, h1, h2, h3, h4⟩ := bi2 h.l h.e
 have e : R6 N A = x := by rw [R6, h1]; rfl
 rw [e]
 exact ⟨h1, h2, h3, h4⟩
theorem by5 {N A} (h : OkD N A) {s t : Nat} (hs : s < A.length) (ht : t < A.length) : (R6 N A).getD s 0 = (R6 N A).getD t 0 ↔ Eqv N A N A s t := by
 obtain ⟨_, h2, h3, h4⟩ := ae9 h
 exact ch5 h h2 h3 h4 hs ht
theorem by6 {N A} (h : OkD N A) (s : Nat) : (R6 N A).getD s 0 < A.length := by
 obtain ⟨_, _, _, c2, F1, c1, F2, h1, h2, he⟩ := ae9 h
 have hl := h.l
 cases hx : (R6 N A)[s]? with
 | none => simp only [List.getD, hx]; exact hl
 | some k =>
  have := (h2.lt hx).2
  have := h2.most
  simp only [List.getD, hx]
  exact Nat.lt_of_lt_of_le (by assumption) (by assumption)
theorem at7 (cl : Nat → Nat) (s : Nat) : aD9 cl [s] := fun i j a b ha hb _ => by
 have h1 := (List.getElem?_eq_some_iff.1 ha).1
 have h2 := (List.getElem?_eq_some_iff.1 hb).1
 simp at h1 h2
 omega
structure MinOk (N : List Int) (A : List Bool) (L R : List Nat) : Prop where
 run : goC (fun s => (R6 N A).getD s 0) (T7 N) (A.length + 2) 0 [0] [] = some (L, R)
 mid : MidC (fun s => (R6 N A).getD s 0) (T7 N) L.length L R
 head : L[0]? = some 0
 lt : ∀ a s : Nat, L[a]? = some s → s < A.length
theorem al2 {N A} (h : OkD N A) : MinOk N A (Q5 N A).1 (Q5 N A).2 := by
 have hl := h.l
 obtain ⟨p, hp⟩ := ba3 (cl := fun s => (R6 N A).getD s 0) (nx := T7 N) (n := A.length) (fun s => by6 h s) (A.length + 2) 0 [0] [] (at7 _ 0) (by simp) (by omega)
 have e : Q5 N A = p := by rw [Q5, hp]; rfl
 rw [e]
 obtain ⟨h1, h2⟩ := by1 _ _ _ _ ⟨at7 _ 0, by simp, rfl, fun a m ha => by omega⟩ p hp
 have h3 := by3 (p := fun s => s < A.length) (fun x m hx hm => h.next hx hm) _ _ _ _ (fun s hs => by rw [List.mem_singleton.1 hs]; exact hl) p hp
 exact ⟨hp, h1, h2 0 0 rfl, fun a s hs => h3 s (List.mem_of_getElem? hs)⟩
theorem af0 (N A) : (O3 N A).length = (Q5 N A).1.length := by simp [O3]
theorem bO9 {N A} (h : OkD N A) : (aa1 N A).length = 5 * (O3 N A).length := by
 have := (al2 h).mid.len
 rw [aa1, List.length_map, af0]
 omega
theorem ba5 {N A} (h : OkD N A) : 1 ≤ (O3 N A).length ∧ (O3 N A).length ≤ A.length := by
 have hm := al2 h
 rw [af0]
 refine ⟨(List.getElem?_eq_some_iff.1 hm.head).1, ae8 (fun s => by6 h s) hm.mid.dist⟩
theorem ch6 {N A} (h : OkD N A) {a m : Nat} (ha : a < (O3 N A).length) (hm : m < 5) : ∃ x k s : Nat, (Q5 N A).1[a]? = some x ∧ (aa1 N A).getD (a * 5 + m) 0 = (k : Int) ∧ k < (O3 N A).length ∧ (Q5 N A).1[k]? = some s ∧ (R6 N A).getD s 0 = (R6 N A).getD (T7 N x m) 0 := by
 rw [af0] at ha
 obtain ⟨x, k, s, e1, e2, e3, e4⟩ := (al2 h).mid.row a m ha hm
 exact ⟨x, k, s, e1, by simp [aa1, List.getD, e2], by rw [af0]; exact (List.getElem?_eq_some_iff.1 e3).1, e3, e4⟩
theorem by7 {N A} (h : OkD N A) : OkD (aa1 N A) (O3 N A) := by
 refine ⟨(ba5 h).1, fun i hi => ?_⟩
 obtain ⟨x, k, s, _, e2, e3, _⟩ := ch6 h (a := i / 5) (m := i % 5) (by omega) (by omega)
 rw [show i = i / 5 * 5 + i % 5 by omega, e2]
 omega
theorem ch7 {N A} {a s : Nat} (hs : (Q5 N A).1[a]? = some s) : (O3 N A).getD a false = A.getD s false := by simp [O3, List.getD, hs]
theorem by8 {N A} (h : OkD N A) {a s : Nat} (hs : (Q5 N A).1[a]? = some s) : Eqv N A (aa1 N A) (O3 N A) s a := fun w hw => by
 have hm := al2 h
 obtain ⟨_, h2, _, h4⟩ := ae9 h
 obtain ⟨t, h5, h6⟩ := by2 h4 h.e hm.lt hm.mid w a s s hw hs (hm.lt a s hs) rfl
 have h5 : (Q5 N A).1[goS (aa1 N A) a w]? = some t := h5
 rw [ch7 h5]
 refine (h2 t _ (hm.lt _ _ h5) (h.go w s hw (hm.lt a s hs)) ?_).symm
 exact congrArg (fun o : Option Nat => o.getD 0) h6
theorem by9 {N A} (h : OkD N A) : Eqv N A (aa1 N A) (O3 N A) 0 0 := by8 h (al2 h).head
theorem bz0 {N A M B} (h : OkD N A) (h' : OkD M B) (he : Eqv N A M B 0 0) : aa1 N A = aa1 M B ∧ O3 N A = O3 M B := by
 have hm := al2 h
 have hm' := al2 h'
 obtain ⟨g1, g2⟩ := ba4 (cl := fun s => (R6 N A).getD s 0) (cl' := fun s => (R6 M B).getD s 0) (nx := T7 N) (nx' := T7 M) (E := fun s t => s < A.length ∧ t < B.length ∧ Eqv N A M B s t)
  (fun s s' t t' ⟨a1, a2, a3⟩ ⟨b1, b2, b3⟩ => by
   rw [by5 h a1 b1, by5 h' a2 b2]
   exact ⟨fun e => (a3.symm.trans e).trans b3, fun e => (a3.trans e).trans b3.symm⟩)
  (fun s s' m hm ⟨a1, a2, a3⟩ => ⟨h.next a1 hm, h'.next a2 hm, a3.next hm⟩)
  _ _ _ _ _ _ _ _ (⟨rfl, fun i a b ha hb => by
   have h1 := (List.getElem?_eq_some_iff.1 ha).1
   simp at h1
   subst h1
   simp at ha hb
   subst ha hb
   exact ⟨h.l, h'.l, he⟩⟩) hm.run hm'.run
 refine ⟨by rw [aa1, aa1]; exact congrArg _ g2, ?_⟩
 refine List.ext_getElem? fun i => ?_
 rw [O3, O3, List.getElem?_map, List.getElem?_map]
 rcases g1.get i with ⟨e1, e2⟩ | ⟨s, s', e1, e2, e3⟩
 ·have e1 : (Q5 N A).1[i]? = none := e1
  have e2 : (Q5 M B).1[i]? = none := e2
  rw [e1, e2]; rfl
 ·have e1 : (Q5 N A).1[i]? = some s := e1
  have e2 : (Q5 M B).1[i]? = some s' := e2
  rw [e1, e2]
  simp only [Option.map_some]
  rw [e3.2.2.acc]
theorem aL5 {N A} (h : OkD N A) : aa1 (aa1 N A) (O3 N A) = aa1 N A ∧ O3 (aa1 N A) (O3 N A) = O3 N A := by
 obtain ⟨h1, h2⟩ := bz0 h (by7 h) (by9 h)
 exact ⟨h1.symm, h2.symm⟩
end Go.Proofs.YtpmjpogcaglphaaDoor.A
namespace Go.Proofs.YtpmjpogcaglphaaDoor.A
open Go
set_option maxRecDepth 20000
def J7 (w : List Nat) : Nat := w.foldl (fun c m => 5 * c + m + 1) 0
theorem az4 (w : List Nat) (m : Nat) : J7 (w ++ [m]) = 5 * J7 w + m + 1 := by simp [J7]
structure Ent where
 x : Nat
 y : Nat
 b : Int
 m : Nat
 w : List Nat
def aF3 : Ent := ⟨0, 0, -1, 0, []⟩
def aS8 (N M : List Int) (i : Nat) (e : Ent) (m : Nat) : Ent := ⟨T7 N e.x m, T7 M e.y m, i, m, e.w ++ [m]⟩
def aL6 (l : List Ent) (e : Ent) : List Ent := if l.any (fun p => p.x == e.x && p.y == e.y) then l else l ++ [e]
def bk6 (N M : List Int) (i : Nat) (e : Ent) : Nat → List Ent → List Ent
 | 0, l => l
 | m + 1, l => aL6 (bk6 N M i e m l) (aS8 N M i e m)
def bz1 (N : List Int) (A : List Bool) (M : List Int) (B : List Bool) : Nat → Nat → List Ent → Option (Option (List Nat))
 | 0, _, _ => none
 | r + 1, i, l => match l[i]? with
  | none => some none
  | some e => if A.getD e.x false = B.getD e.y false then bz1 N A M B r (i + 1) (bk6 N M i e 5 l) else some (some e.w)
structure QMid (N : List Int) (A : List Bool) (M : List Int) (B : List Bool) (i : Nat) (l : List Ent) (c : Nat) : Prop where
 head : l[0]? = some aF3
 back : ∀ (k : Nat) e, l[k]? = some e → 0 < k → ∃ (j : Nat) (f : Ent), e.b = (j : Int) ∧ j < k ∧ e.m < 5 ∧ l[j]? = some f ∧ e.w = f.w ++ [e.m]
 word : ∀ e ∈ l, (∀ z ∈ e.w, z < 5) ∧ goS N 0 e.w = e.x ∧ goS M 0 e.w = e.y
 mono : ∀ (j k : Nat) e f, l[j]? = some e → l[k]? = some f → j < k → J7 e.w < J7 f.w
 top : ∀ e ∈ l, J7 e.w < c
 done : ∀ (k : Nat) e, k < i → l[k]? = some e → A.getD e.x false = B.getD e.y false ∧ ∀ m, m < 5 → ∃ f ∈ l, f.x = T7 N e.x m ∧ f.y = T7 M e.y m ∧ J7 f.w ≤ 5 * J7 e.w + m + 1
 uniq : ∀ (j k : Nat) e f, l[j]? = some e → l[k]? = some f → e.x = f.x → e.y = f.y → j = k
theorem af1 (N : List Int) : ∀ (w : List Nat) (s m : Nat), goS N s (w ++ [m]) = T7 N (goS N s w) m
 | [], _, _ => rfl
 | a :: w, s, m => by
  rw [List.cons_append, goS, goS]
  exact af1 N w _ m
theorem an1 {l : List Ent} {e f : Ent} {k : Nat} (h : l[k]? = some f) : (aL6 l e)[k]? = some f := by
 unfold aL6
 split
 ·exact h
 ·exact Z0 h
theorem ba6 {l : List Ent} {e f : Ent} (h : f ∈ l) : f ∈ aL6 l e := by
 unfold aL6
 split
 ·exact h
 ·exact List.mem_append_left _ h
theorem ai5 {l : List Ent} {e f : Ent} {k : Nat} (h : (aL6 l e)[k]? = some f) : l[k]? = some f ∨ (k = l.length ∧ f = e ∧ ∀ p ∈ l, ¬ (p.x = e.x ∧ p.y = e.y)) := by
 unfold aL6 at h
 split at h
 ·exact .inl h
 ·rename_i hn
  rcases I6 h with h | ⟨h1, h2⟩
  ·exact .inl h
  ·refine .inr ⟨h1, h2, fun p hp hc => hn ?_⟩
   rw [List.any_eq_true]
   exact ⟨p, hp, by simp [hc.1, hc.2]⟩
theorem ch8 (l : List Ent) (e : Ent) : ∃ f ∈ aL6 l e, f.x = e.x ∧ f.y = e.y ∧ (f ∈ l ∨ f = e) := by
 unfold aL6
 split
 ·rename_i h
  obtain ⟨p, hp, h⟩ := List.any_eq_true.1 h
  simp only [Bool.and_eq_true, beq_iff_eq] at h
  exact ⟨p, hp, h.1, h.2, .inl hp⟩
 ·exact ⟨e, by simp, rfl, rfl, .inr rfl⟩
theorem ba7 {l : List Ent} {e : Ent} {p : Ent → Prop} (h : ∀ f ∈ l, p f) (he : p e) : ∀ f ∈ aL6 l e, p f := by
 unfold aL6
 split
 ·exact h
 ·intro f hf
  rcases List.mem_append.1 hf with hf | hf
  ·exact h f hf
  ·rw [List.mem_singleton.1 hf]; exact he
structure QRow (N : List Int) (A : List Bool) (M : List Int) (B : List Bool) (i : Nat) (e : Ent) (j : Nat) (l : List Ent) : Prop where
 mid : QMid N A M B i l (5 * J7 e.w + j + 1)
 at_ : l[i]? = some e
 acc : A.getD e.x false = B.getD e.y false
 row : ∀ m, m < j → ∃ f ∈ l, f.x = T7 N e.x m ∧ f.y = T7 M e.y m ∧ J7 f.w ≤ 5 * J7 e.w + m + 1
theorem QRow.step {N A M B i e j l} (h : QRow N A M B i e j l) (hj : j < 5) : QRow N A M B i e (j + 1) (aL6 l (aS8 N M i e j)) := by
 have hw := h.mid.word e (List.mem_of_getElem? h.at_)
 have hc : J7 (aS8 N M i e j).w = 5 * J7 e.w + j + 1 := az4 e.w j
 refine ⟨⟨an1 h.mid.head, fun k f hk hp => ?_, ba7 h.mid.word ⟨fun z hz => ?_, ?_, ?_⟩, fun a b f g hf hg hab => ?_, ba7 (fun f hf => by have := h.mid.top f hf; omega) (by rw [hc]; omega), fun k f hk hf => ?_, fun a b f g hf hg ex ey => ?_⟩, an1 h.at_, h.acc, fun m hm => ?_⟩
 ·rcases ai5 hk with hk | ⟨h1, h2, _⟩
  ·obtain ⟨q, g, e1, e2, e3, e4, e5⟩ := h.mid.back k f hk hp
   exact ⟨q, g, e1, e2, e3, an1 e4, e5⟩
  ·subst h2
   refine ⟨i, e, rfl, ?_, hj, an1 h.at_, rfl⟩
   rw [h1]
   exact (List.getElem?_eq_some_iff.1 h.at_).1
 ·have hz : z ∈ e.w ++ [j] := hz
  rcases List.mem_append.1 hz with hz | hz
  ·exact hw.1 z hz
  ·rw [List.mem_singleton.1 hz]; exact hj
 ·show goS N 0 (e.w ++ [j]) = _
  rw [af1, hw.2.1]; rfl
 ·show goS M 0 (e.w ++ [j]) = _
  rw [af1, hw.2.2]; rfl
 ·rcases ai5 hf with hf | ⟨h1, h2, _⟩ <;> rcases ai5 hg with hg | ⟨h1', h2', _⟩
  ·exact h.mid.mono a b f g hf hg hab
  ·rw [h2', hc]
   exact h.mid.top f (List.mem_of_getElem? hf)
  ·have := (List.getElem?_eq_some_iff.1 hg).1
   omega
  ·omega
 ·rcases ai5 hf with hf | ⟨h1, _, _⟩
  ·obtain ⟨g1, g2⟩ := h.mid.done k f hk hf
   refine ⟨g1, fun m hm => ?_⟩
   obtain ⟨g, hg, e1, e2, e3⟩ := g2 m hm
   exact ⟨g, ba6 hg, e1, e2, e3⟩
  ·have := (List.getElem?_eq_some_iff.1 h.at_).1
   omega
 ·rcases ai5 hf with hf | ⟨h1, h2, h3⟩ <;> rcases ai5 hg with hg | ⟨h1', h2', h3'⟩
  ·exact h.mid.uniq a b f g hf hg ex ey
  ·subst h2'
   exact absurd ⟨ex, ey⟩ (h3' f (List.mem_of_getElem? hf))
  ·subst h2
   exact absurd ⟨ex.symm, ey.symm⟩ (h3 g (List.mem_of_getElem? hg))
  ·omega
 ·by_cases hmj : m < j
  ·obtain ⟨g, hg, e1, e2, e3⟩ := h.row m hmj
   exact ⟨g, ba6 hg, e1, e2, e3⟩
  ·have : m = j := by omega
   subst this
   obtain ⟨f, hf, e1, e2, e3⟩ := ch8 l (aS8 N M i e m)
   refine ⟨f, hf, e1, e2, ?_⟩
   rcases e3 with e3 | e3
   ·have := h.mid.top f e3
    omega
   ·rw [e3, hc]; exact Nat.le_refl _
theorem aE2 {N A M B i e l} (h : QMid N A M B i l (5 * J7 e.w + 1)) (he : l[i]? = some e) (ha : A.getD e.x false = B.getD e.y false) : ∀ j, j ≤ 5 → QRow N A M B i e j (bk6 N M i e j l)
 | 0, _ => ⟨h, he, ha, fun m hm => by omega⟩
 | j + 1, hj => (aE2 h he ha j (by omega)).step (by omega)
theorem QRow.next {N A M B i e l} (h : QRow N A M B i e 5 l) : ∀ e', l[i + 1]? = some e' → QMid N A M B (i + 1) l (5 * J7 e'.w + 1) := fun e' he' => by
 refine ⟨h.mid.head, h.mid.back, h.mid.word, h.mid.mono, fun f hf => ?_, fun k f hk hf => ?_, h.mid.uniq⟩
 ·have := h.mid.top f hf
  have := h.mid.mono i (i + 1) e e' h.at_ he' (by omega)
  omega
 ·by_cases hki : k < i
  ·exact h.mid.done k f hki hf
  ·have : k = i := by omega
   subst this
   rw [h.at_] at hf
   injection hf with hf
   subst hf
   exact ⟨h.acc, h.row⟩
theorem QRow.done {N A M B i e l} (h : QRow N A M B i e 5 l) : QMid N A M B (i + 1) l (5 * J7 e.w + 6) := by
 refine ⟨h.mid.head, h.mid.back, h.mid.word, h.mid.mono, h.mid.top, fun k f hk hf => ?_, h.mid.uniq⟩
 by_cases hki : k < i
 ·exact h.mid.done k f hki hf
 ·have : k = i := by omega
  subst this
  rw [h.at_] at hf
  injection hf with hf
  subst hf
  exact ⟨h.acc, h.row⟩
theorem QMid.start (N A M B) : QMid N A M B 0 [aF3] 1 := by
 refine ⟨rfl, fun k e hk hp => ?_, fun e he => ?_, fun j k e f he hf hjk => ?_, fun e he => ?_, fun k e hk => by omega, fun j k e f he hf _ _ => ?_⟩
 ·have := (List.getElem?_eq_some_iff.1 hk).1
  simp at this
  omega
 ·rw [List.mem_singleton.1 he]
  exact ⟨fun z hz => by simp [aF3] at hz, rfl, rfl⟩
 ·have := (List.getElem?_eq_some_iff.1 hf).1
  simp at this
  omega
 ·rw [List.mem_singleton.1 he]
  exact Nat.zero_lt_one
 ·have h1 := (List.getElem?_eq_some_iff.1 he).1
  have h2 := (List.getElem?_eq_some_iff.1 hf).1
  simp at h1 h2
  omega
theorem QMid.few {N A M B i l c} (h : QMid N A M B i l c) (hA : OkD N A) (hB : OkD M B) : l.length ≤ A.length * B.length ∧ ∀ e ∈ l, e.x < A.length ∧ e.y < B.length := by
 have hin : ∀ e ∈ l, e.x < A.length ∧ e.y < B.length := fun e he => by
  obtain ⟨h1, h2, h3⟩ := h.word e he
  rw [← h2, ← h3]
  exact ⟨hA.go _ _ h1 hA.l, hB.go _ _ h1 hB.l⟩
 refine ⟨?_, hin⟩
 have hnd : (l.map fun e => e.x * B.length + e.y).Nodup := by
  unfold List.Nodup
  rw [List.pairwise_map, List.pairwise_iff_getElem]
  intro a b ha hb hab e
  have h1 := hin l[a] (List.getElem_mem ..)
  have h2 := hin l[b] (List.getElem_mem ..)
  have e1 : l[a].x = l[b].x := by
   have := congrArg (· / B.length) e
   (try simp only at this)
   rw [Nat.mul_comm l[a].x, Nat.mul_comm l[b].x, Nat.mul_add_div (by omega), Nat.mul_add_div (by omega), Nat.div_eq_of_lt h1.2, Nat.div_eq_of_lt h2.2] at this
   simpa using this
  have e2 : l[a].y = l[b].y := by rw [e1] at e; omega
  have := h.uniq a b _ _ (List.getElem?_eq_getElem ha) (List.getElem?_eq_getElem hb) e1 e2
  omega
 have := List.Nodup.length_le_of_subset hnd (l₂ := List.range (A.length * B.length)) (fun y hy => by
  obtain ⟨e, he, rfl⟩ := List.mem_map.1 hy
  have := hin e he
  rw [List.mem_range]
  have h2 : (e.x + 1) * B.length ≤ A.length * B.length := Nat.mul_le_mul_right _ this.1
  have h3 : (e.x + 1) * B.length = e.x * B.length + B.length := by rw [Nat.add_mul, Nat.one_mul]
  omega)
 rwa [List.length_map, List.length_range] at this
theorem bi3 (w : List Nat) : w = [] ∨ ∃ v m, w = v ++ [m] := by
 rcases List.eq_nil_or_concat w with h | ⟨v, m, h⟩
 ·exact .inl h
 ·exact .inr ⟨v, m, by simpa using h⟩
theorem QMid.leads {N A M B i l c} (h : QMid N A M B i l c) (hi : 0 < i) : ∀ (n : Nat) (u : List Nat), u.length = n → (∀ z ∈ u, z < 5) → (∀ f ∈ l, J7 f.w ≤ J7 u → ∃ k, k < i ∧ l[k]? = some f) → ∃ k e, k < i ∧ l[k]? = some e ∧ e.x = goS N 0 u ∧ e.y = goS M 0 u ∧ J7 e.w ≤ J7 u
 | n, u, hn, hu, hb => by
  rcases bi3 u with rfl | ⟨v, m, rfl⟩
  ·exact ⟨0, aF3, hi, h.head, rfl, rfl, Nat.le_refl _⟩
  ·match n, hn with
   | 0, hn => simp at hn
   | n + 1, hn =>
    have hm : m < 5 := hu m (by simp)
    have hc := az4 v m
    obtain ⟨k, e, h1, h2, h3, h4, h5⟩ := QMid.leads h hi n v (by simpa using hn) (fun z hz => hu z (by simp [hz])) (fun f hf hle => hb f hf (by omega))
    obtain ⟨_, h6⟩ := h.done k e h1 h2
    obtain ⟨f, hf, e1, e2, e3⟩ := h6 m hm
    obtain ⟨k', g1, g2⟩ := hb f hf (by omega)
    exact ⟨k', f, g1, g2, by rw [af1, e1, h3], by rw [af1, e2, h4], by omega⟩
def ch9 (N : List Int) (A : List Bool) (M : List Int) (B : List Bool) : Option (List Nat) → Prop
 | none => Eqv N A M B 0 0
 | some w => (∀ z ∈ w, z < 5) ∧ A.getD (goS N 0 w) false ≠ B.getD (goS M 0 w) false ∧ ∀ u : List Nat, (∀ z ∈ u, z < 5) → J7 u < J7 w → A.getD (goS N 0 u) false = B.getD (goS M 0 u) false
theorem QMid.all {N A M B l c} (h : QMid N A M B l.length l c) : Eqv N A M B 0 0 := fun u hu => by
 have hp : 0 < l.length := (List.getElem?_eq_some_iff.1 h.head).1
 obtain ⟨k, e, h1, h2, h3, h4, _⟩ := h.leads hp _ u rfl hu (fun f hf _ => by
  obtain ⟨k, hk, e⟩ := List.getElem_of_mem hf
  exact ⟨k, hk, by rw [List.getElem?_eq_getElem hk, e]⟩)
 rw [← h3, ← h4]
 exact (h.done k e h1 h2).1
theorem QMid.first {N A M B i l c e} (h : QMid N A M B i l c) (he : l[i]? = some e) (hd : A.getD e.x false ≠ B.getD e.y false) : ch9 N A M B (some e.w) := by
 obtain ⟨h1, h2, h3⟩ := h.word e (List.mem_of_getElem? he)
 refine ⟨h1, by rw [h2, h3]; exact hd, fun u hu hlt => ?_⟩
 have hi : 0 < i := by
  by_cases hc : 0 < i
  ·exact hc
  ·have : i = 0 := by omega
   subst this
   rw [h.head] at he
   injection he with he
   subst he
   exact absurd hlt (Nat.not_lt_zero _)
 obtain ⟨k, f, g1, g2, g3, g4, _⟩ := h.leads hi _ u rfl hu (fun f hf hle => by
  obtain ⟨k, hk, e2⟩ := List.getElem_of_mem hf
  have hk2 : l[k]? = some f := by rw [List.getElem?_eq_getElem hk, e2]
  refine ⟨k, ?_, hk2⟩
  by_cases hki : k < i
  ·exact hki
  ·by_cases hke : k = i
   ·subst hke
    rw [he] at hk2
    injection hk2 with hk2
    subst hk2
    omega
   ·have := h.mono i k e f he hk2 (by omega)
    omega)
 rw [← g3, ← g4]
 exact (h.done k f g1 g2).1
theorem bz2 {N A M B} (hA : OkD N A) (hB : OkD M B) : ∀ (r i : Nat) (l : List Ent) (c : Nat), QMid N A M B i l c → (∀ e, l[i]? = some e → QMid N A M B i l (5 * J7 e.w + 1)) → i ≤ l.length → A.length * B.length + 1 - i ≤ r → ∃ p, bz1 N A M B r i l = some p ∧ ch9 N A M B p
 | 0, i, l, c, h, _, hi, hr => by
  have := (h.few hA hB).1
  omega
 | r + 1, i, l, c, h, hn, hi, hr => by
  rw [bz1]
  cases hx : l[i]? with
  | none =>
   have h1 := List.getElem?_eq_none_iff.1 hx
   have : i = l.length := by omega
   subst this
   exact ⟨none, rfl, h.all⟩
  | some e =>
   have h := hn e hx
   by_cases ha : A.getD e.x false = B.getD e.y false
   ·have hro := aE2 h hx ha 5 (Nat.le_refl _)
    have hlt := (List.getElem?_eq_some_iff.1 hro.at_).1
    obtain ⟨p, h1, h2⟩ := bz2 hA hB r (i + 1) _ _ hro.done hro.next (by omega) (by omega)
    refine ⟨p, ?_, h2⟩
    show (if A.getD e.x false = B.getD e.y false then _ else _) = _
    rw [if_pos ha]
    exact h1
   ·refine ⟨some e.w, ?_, h.first hx ha⟩
    show (if A.getD e.x false = B.getD e.y false then _ else _) = _
    rw [if_neg ha]
def bz3 (N : List Int) (A : List Bool) (M : List Int) (B : List Bool) : Option (List Nat) := (bz1 N A M B (A.length * B.length + 2) 0 [aF3]).getD none
theorem ba8 {N A M B} (hA : OkD N A) (hB : OkD M B) : bz1 N A M B (A.length * B.length + 2) 0 [aF3] = some (bz3 N A M B) ∧ ch9 N A M B (bz3 N A M B) := by
 obtain ⟨p, h1, h2⟩ := bz2 hA hB (A.length * B.length + 2) 0 [aF3] 1 (QMid.start N A M B) (fun e he => by
  injection he with he
  subst he
  exact QMid.start N A M B) (by simp) (by omega)
 have e : bz3 N A M B = p := by rw [bz3, h1]; rfl
 rw [e]
 exact ⟨h1, h2⟩
end Go.Proofs.YtpmjpogcaglphaaDoor.A
