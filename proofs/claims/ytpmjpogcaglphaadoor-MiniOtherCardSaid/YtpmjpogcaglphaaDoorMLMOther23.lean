/- The least machine, plainly: classes numbered by the first state of each kind. -/
import Derived.Test.YtpmjpogcaglphaaDoorMLMOther17
set_option linter.unusedVariables false
set_option linter.unusedSimpArgs false
set_option linter.unnecessarySimpa false
namespace Go.Proofs.YtpmjpogcaglphaaDoor.A
open Go
set_option maxRecDepth 20000
def t7 (N : List Int) (c : List Nat) (s : Nat) : List Nat := c.getD s 0 :: (List.range 5).map fun m => c.getD (N.getD (s * 5 + m) 0).toNat 0
def R7 (N : List Int) (c : List Nat) : Nat → List Nat × List Nat
 | 0 => ([], [])
 | i + 1 => match (R7 N c i).1.findIdx? (fun f => t7 N c f == t7 N c i) with
  | some k => ((R7 N c i).1, (R7 N c i).2 ++ [k])
  | none => ((R7 N c i).1 ++ [i], (R7 N c i).2 ++ [(R7 N c i).1.length])
structure FinAt (N : List Int) (c : List Nat) (i : Nat) (F x : List Nat) : Prop where
 len : x.length = i
 most : F.length ≤ i
 in_ : ∀ (k f : Nat), F[k]? = some f → f < i ∧ x[f]? = some k
 rep : ∀ (s k : Nat), x[s]? = some k → ∃ f, F[k]? = some f ∧ t7 N c f = t7 N c s
 one : ∀ (k k' f f' : Nat), F[k]? = some f → F[k']? = some f' → t7 N c f = t7 N c f' → k = k'
theorem H4 {α} {l : List α} {a b : α} {k : Nat} (h : (l ++ [a])[k]? = some b) : l[k]? = some b ∨ (k = l.length ∧ b = a) := by
 by_cases hk : k < l.length
 ·rw [List.getElem?_append_left hk] at h; exact .inl h
 ·rw [List.getElem?_append_right (by omega)] at h
  by_cases hk2 : k = l.length
  ·subst hk2; simp at h; exact .inr ⟨rfl, h.symm⟩
  ·rw [List.getElem?_eq_none (by simp; omega)] at h; cases h
theorem W1 {α} {l : List α} {a b : α} {k : Nat} (h : l[k]? = some b) : (l ++ [a])[k]? = some b := by
 rw [List.getElem?_append_left (List.getElem?_eq_some_iff.1 h).1]; exact h
theorem af1 (N : List Int) (c : List Nat) : ∀ i, FinAt N c i (R7 N c i).1 (R7 N c i).2
 | 0 => ⟨rfl, Nat.le_refl _, fun k f h => by simp [R7] at h, fun s k h => by simp [R7] at h, fun k k' f f' h => by simp [R7] at h⟩
 | i + 1 => by
  have ih := af1 N c i
  rw [R7]
  generalize (R7 N c i).1 = F at *
  generalize (R7 N c i).2 = x at *
  cases hf : F.findIdx? (fun f => t7 N c f == t7 N c i) with
  | some k =>
   obtain ⟨hk, hk2, _⟩ := List.findIdx?_eq_some_iff_getElem.1 hf
   have hk2 : t7 N c F[k] = t7 N c i := by simpa using hk2
   have hgk : F[k]? = some F[k] := List.getElem?_eq_getElem hk
   refine ⟨by simp [ih.len], by have := ih.most; simp; omega, fun q f h => ?_, fun s q h => ?_, ih.one⟩
   ·obtain ⟨h1, h2⟩ := ih.in_ q f h
    exact ⟨by omega, W1 h2⟩
   ·rcases H4 h with h | ⟨h1, h2⟩
    ·exact ih.rep s q h
    ·rw [ih.len] at h1
     subst h1 h2
     exact ⟨_, hgk, hk2⟩
  | none =>
   have hn : ∀ f ∈ F, t7 N c f ≠ t7 N c i := fun f hf2 e => by
    have := List.findIdx?_eq_none_iff.1 hf f hf2
    rw [e] at this
    simp at this
   have hn2 : ∀ k f, F[k]? = some f → t7 N c f ≠ t7 N c i := fun k f h => hn f (List.mem_of_getElem? h)
   refine ⟨by simp [ih.len], by have := ih.most; simp; omega, fun q f h => ?_, fun s q h => ?_, fun k k' f f' h h' e => ?_⟩
   ·rcases H4 h with h | ⟨h1, h2⟩
    ·obtain ⟨h1, h2⟩ := ih.in_ q f h
     exact ⟨by omega, W1 h2⟩
    ·subst h1 h2
     exact ⟨by omega, by rw [List.getElem?_append_right (by rw [ih.len]; omega), ih.len]; simp⟩
   ·rcases H4 h with h | ⟨h1, h2⟩
    ·obtain ⟨f, h1, h2⟩ := ih.rep s q h
     exact ⟨f, W1 h1, h2⟩
    ·rw [ih.len] at h1
     subst h1 h2
     exact ⟨s, by simp, rfl⟩
   ·rcases H4 h with h | ⟨h1, h2⟩ <;> rcases H4 h' with h' | ⟨h1', h2'⟩
    ·exact ih.one k k' f f' h h' e
    ·rw [h2'] at e; exact absurd e (hn2 k f h)
    ·rw [h2] at e; exact absurd e.symm (hn2 k' f' h')
    ·omega
theorem FinAt.iff {N c i F x} (h : FinAt N c i F x) {s t k k' : Nat} (hs : x[s]? = some k) (ht : x[t]? = some k') : k = k' ↔ t7 N c s = t7 N c t := by
 obtain ⟨f, f1, f2⟩ := h.rep s k hs
 obtain ⟨g, g1, g2⟩ := h.rep t k' ht
 constructor
 ·rintro rfl
  rw [f1] at g1
  injection g1 with g1
  rw [← f2, ← g2, g1]
 ·intro e
  exact h.one k k' f g f1 g1 (by rw [f2, g2, e])
set_option maxRecDepth 20000
theorem FinAt.lt {N c i F x} (h : FinAt N c i F x) {s k : Nat} (hs : x[s]? = some k) : s < i ∧ k < F.length := by
 obtain ⟨f, f1, _⟩ := h.rep s k hs
 have := (List.getElem?_eq_some_iff.1 hs).1
 exact ⟨by rw [← h.len]; exact this, (List.getElem?_eq_some_iff.1 f1).1⟩
theorem FinAt.get {N c i F x} (h : FinAt N c i F x) {s : Nat} (hs : s < i) : ∃ k, x[s]? = some k := ⟨_, List.getElem?_eq_getElem (by rw [h.len]; exact hs)⟩
theorem ap6 {N : List Int} {c : List Nat} {s t : Nat} (h : t7 N c s = t7 N c t) : c.getD s 0 = c.getD t 0 := by
 unfold t7 at h
 exact (List.cons.inj h).1
theorem br1 {N : List Int} {c : List Nat} {s t m : Nat} (h : t7 N c s = t7 N c t) (hm : m < 5) : c.getD (N.getD (s * 5 + m) 0).toNat 0 = c.getD (N.getD (t * 5 + m) 0).toNat 0 := by
 unfold t7 at h
 have h := (List.cons.inj h).2
 have h2 := congrArg (fun l : List Nat => l[m]?) h
 simpa [List.getElem?_map, List.getElem?_range hm] using h2
theorem B4 {l : List Nat} {s k : Nat} (h : l[s]? = some k) : l.getD s 0 = k := by simp [List.getD, h]
theorem FinAt.grow {N c i F x F' x'} (h : FinAt N c i F x) (h' : FinAt N x i F' x') : F.length ≤ F'.length ∧ (F.length = F'.length → ∀ s t k : Nat, x[s]? = some k → x[t]? = some k → x'[s]? = x'[t]?) := by
 obtain ⟨L, hL⟩ : ∃ L : List Nat, L = (List.range F.length).map (fun k => x'.getD (F.getD k 0) 0) := ⟨_, rfl⟩
 have hLl : L.length = F.length := by rw [hL]; simp
 have hat : ∀ k, k < F.length → ∃ f k', F[k]? = some f ∧ x[f]? = some k ∧ x'[f]? = some k' ∧ x'.getD (F.getD k 0) 0 = k' := fun k hk => by
  have e := List.getElem?_eq_getElem hk
  obtain ⟨h1, h2⟩ := h.in_ k _ e
  obtain ⟨k', h3⟩ := h'.get h1
  refine ⟨_, k', e, h2, h3, ?_⟩
  rw [B4 e, B4 h3]
 have hinj : ∀ k l, k < F.length → l < F.length → x'.getD (F.getD k 0) 0 = x'.getD (F.getD l 0) 0 → k = l := fun k l hk hl e => by
  obtain ⟨f, k', a1, a2, a3, a4⟩ := hat k hk
  obtain ⟨g, l', b1, b2, b3, b4⟩ := hat l hl
  have e2 := ap6 ((h'.iff a3 b3).1 (by rw [← a4, ← b4, e]))
  rwa [B4 a2, B4 b2] at e2
 have hnd : L.Nodup := by
  rw [hL]
  unfold List.Nodup
  rw [List.pairwise_map]
  refine List.Pairwise.imp_of_mem ?_ List.nodup_range
  intro a b ha hb hab e
  exact hab (hinj a b (List.mem_range.1 ha) (List.mem_range.1 hb) e)
 have hsub : ∀ y ∈ L, y < F'.length := fun y hy => by
  rw [hL] at hy
  obtain ⟨k, hk, rfl⟩ := List.mem_map.1 hy
  obtain ⟨f, k', a1, a2, a3, a4⟩ := hat k (List.mem_range.1 hk)
  rw [a4]
  exact (h'.lt a3).2
 refine ⟨?_, fun he => ?_⟩
 ·have := List.Nodup.length_le_of_subset hnd (l₂ := List.range F'.length) (fun y hy => List.mem_range.2 (hsub y hy))
  rw [List.length_range] at this
  omega
 ·have key : ∀ s k : Nat, x[s]? = some k → ∃ k', x'[s]? = some k' ∧ k' = x'.getD (F.getD k 0) 0 := fun s k hs => by
   obtain ⟨k', hk'⟩ := h'.get (h.lt hs).1
   have hk2 := (h'.lt hk').2
   by_cases hm : k' ∈ L
   ·rw [hL] at hm
    obtain ⟨q, hq, hq2⟩ := List.mem_map.1 hm
    obtain ⟨f, q', a1, a2, a3, a4⟩ := hat q (List.mem_range.1 hq)
    have e2 := ap6 ((h'.iff a3 hk').1 (by rw [← a4]; exact hq2))
    rw [B4 a2, B4 hs] at e2
    subst e2
    exact ⟨k', hk', hq2.symm⟩
   ·have := List.Nodup.length_le_of_subset (l₁ := k' :: L) (l₂ := List.range F'.length) (List.nodup_cons.2 ⟨hm, hnd⟩) (fun y hy => by
     rcases List.mem_cons.1 hy with rfl | hy
     ·exact List.mem_range.2 hk2
     ·exact List.mem_range.2 (hsub y hy))
    rw [List.length_range, List.length_cons] at this
    omega
  intro s t k hs ht
  obtain ⟨a, a1, a2⟩ := key s k hs
  obtain ⟨b, b1, b2⟩ := key t k ht
  rw [a1, b1, a2, b2]
set_option maxRecDepth 20000
def ai4 (N : List Int) (len : Nat) : Nat → List Nat → Nat → Option (List Nat)
 | 0, _, _ => none
 | r + 1, c, n => if (R7 N c len).1.length = n then some (R7 N c len).2 else ai4 N len r (R7 N c len).2 (R7 N c len).1.length
def Ended (N : List Int) (len : Nat) (x : List Nat) : Prop := ∃ c2 F1 c1 F2, FinAt N c2 len F1 c1 ∧ FinAt N c1 len F2 x ∧ F1.length = F2.length
theorem br2 {N : List Int} {len : Nat} (P : List Nat → Prop) (hP : ∀ c, c.length = len → P c → P (R7 N c len).2) : ∀ (r : Nat) (c0 F c : List Nat), FinAt N c0 len F c → P c → len + 1 - F.length ≤ r → ∃ x, ai4 N len r c F.length = some x ∧ P x ∧ Ended N len x
 | 0, c0, F, c, h, _, hr => by
  have := h.most
  omega
 | r + 1, c0, F, c, h, hc, hr => by
  have h' := af1 N c len
  have hg := (h.grow h').1
  rw [ai4]
  by_cases he : (R7 N c len).1.length = F.length
  ·rw [if_pos he]
   exact ⟨_, rfl, hP c h.len hc, c0, F, c, _, h, h', he.symm⟩
  ·rw [if_neg he]
   exact br2 P hP r c _ _ h' (hP c h.len hc) (by omega)
theorem bG2 {N : List Int} {len : Nat} (hl : 1 ≤ len) (P : List Nat → Prop) (hP : ∀ c, c.length = len → P c → P (R7 N c len).2) (c : List Nat) (hcl : c.length = len) (hc : P c) : ∃ x, ai4 N len (len + 2) c 0 = some x ∧ P x ∧ Ended N len x := by
 have h' := af1 N c len
 obtain ⟨k, hk⟩ := h'.get (s := 0) (by omega)
 have hpos := (h'.lt hk).2
 rw [ai4, if_neg (by omega)]
 exact br2 P hP (len + 1) c _ _ h' (hP c hcl hc) (by omega)
theorem Ended.same {N len x} (h : Ended N len x) {s t k : Nat} (hN : ∀ i, i < 5 * len → 0 ≤ N.getD i 0 ∧ N.getD i 0 < len) (hs : x[s]? = some k) (ht : x[t]? = some k) {m : Nat} (hm : m < 5) : x[(N.getD (s * 5 + m) 0).toNat]? = x[(N.getD (t * 5 + m) 0).toNat]? := by
 obtain ⟨c2, F1, c1, F2, h1, h2, he⟩ := h
 have hs2 := (h2.lt hs).1
 have ht2 := (h2.lt ht).1
 have e := br1 ((h2.iff hs ht).1 rfl) hm
 have a := hN (s * 5 + m) (by omega)
 have b := hN (t * 5 + m) (by omega)
 obtain ⟨p, hp⟩ := h1.get (s := (N.getD (s * 5 + m) 0).toNat) (by omega)
 obtain ⟨q, hq⟩ := h1.get (s := (N.getD (t * 5 + m) 0).toNat) (by omega)
 rw [B4 hp, B4 hq] at e
 exact (h1.grow h2).2 he _ _ p hp (e ▸ hq)
set_option maxRecDepth 20000
def goS (N : List Int) : Nat → List Nat → Nat
 | s, [] => s
 | s, m :: w => goS N (N.getD (s * 5 + m) 0).toNat w
def Agree (A : List Bool) (len : Nat) (c : List Nat) : Prop := ∀ s t : Nat, s < len → t < len → c.getD s 0 = c.getD t 0 → A.getD s false = A.getD t false
def Told (N : List Int) (A : List Bool) (len : Nat) (c : List Nat) : Prop := ∀ s t : Nat, s < len → t < len → c.getD s 0 ≠ c.getD t 0 → ∃ w : List Nat, (∀ m ∈ w, m < 5) ∧ A.getD (goS N s w) false ≠ A.getD (goS N t w) false
theorem Agree.step {N : List Int} {A : List Bool} {len : Nat} {c : List Nat} (h : Agree A len c) : Agree A len (R7 N c len).2 := fun s t hs ht e => by
 have h' := af1 N c len
 obtain ⟨k, hk⟩ := h'.get hs
 obtain ⟨l, hl⟩ := h'.get ht
 rw [B4 hk, B4 hl] at e
 exact h s t hs ht (ap6 ((h'.iff hk hl).1 e))
theorem aN8 {N : List Int} {c : List Nat} {s t : Nat} (h : t7 N c s ≠ t7 N c t) : c.getD s 0 ≠ c.getD t 0 ∨ ∃ m, m < 5 ∧ c.getD (N.getD (s * 5 + m) 0).toNat 0 ≠ c.getD (N.getD (t * 5 + m) 0).toNat 0 := by
 by_cases h0 : c.getD s 0 = c.getD t 0
 ·refine .inr ?_
  by_cases hx : ∀ m, m < 5 → c.getD (N.getD (s * 5 + m) 0).toNat 0 = c.getD (N.getD (t * 5 + m) 0).toNat 0
  ·refine absurd ?_ h
   unfold t7
   rw [h0]
   refine congrArg (_ :: ·) (List.map_congr_left fun m hm => hx m (List.mem_range.1 hm))
  ·obtain ⟨m, hm⟩ := Classical.not_forall.1 hx
   obtain ⟨h1, h2⟩ := Classical.not_imp.1 hm
   exact ⟨m, h1, h2⟩
 ·exact .inl h0
theorem Told.step {N : List Int} {A : List Bool} {len : Nat} {c : List Nat} (hN : ∀ i, i < 5 * len → 0 ≤ N.getD i 0 ∧ N.getD i 0 < len) (h : Told N A len c) : Told N A len (R7 N c len).2 := fun s t hs ht e => by
 have h' := af1 N c len
 obtain ⟨k, hk⟩ := h'.get hs
 obtain ⟨l, hl⟩ := h'.get ht
 rw [B4 hk, B4 hl] at e
 rcases aN8 (fun e2 => e ((h'.iff hk hl).2 e2)) with h0 | ⟨m, hm, h0⟩
 ·exact h s t hs ht h0
 ·have a := hN (s * 5 + m) (by omega)
  have b := hN (t * 5 + m) (by omega)
  obtain ⟨w, w1, w2⟩ := h (N.getD (s * 5 + m) 0).toNat (N.getD (t * 5 + m) 0).toNat (by omega) (by omega) h0
  refine ⟨m :: w, fun y hy => ?_, w2⟩
  rcases List.mem_cons.1 hy with rfl | hy
  ·exact hm
  ·exact w1 y hy
def ap7 (A : List Bool) : List Nat := A.map fun b => if b then 1 else 0
theorem aj1 {A : List Bool} {s : Nat} (h : s < A.length) : (ap7 A).getD s 0 = if A.getD s false then 1 else 0 := by
 simp [ap7, List.getD, h]
theorem bb6 (A : List Bool) : Agree A A.length (ap7 A) := fun s t hs ht e => by
 rw [aj1 hs, aj1 ht] at e
 cases h1 : A.getD s false <;> cases h2 : A.getD t false <;> simp_all
theorem br3 (N : List Int) (A : List Bool) : Told N A A.length (ap7 A) := fun s t hs ht e => by
 refine ⟨[], ⟨fun y hy => (List.not_mem_nil hy).elim, fun e2 => e ?_⟩⟩
 rw [aj1 hs, aj1 ht]
 change A.getD s false = A.getD t false at e2
 rw [e2]
theorem bb7 {N : List Int} {A : List Bool} (hl : 1 ≤ A.length) (hN : ∀ i, i < 5 * A.length → 0 ≤ N.getD i 0 ∧ N.getD i 0 < A.length) : ∃ x, ai4 N A.length (A.length + 2) (ap7 A) 0 = some x ∧ Agree A A.length x ∧ Told N A A.length x ∧ Ended N A.length x := by
 obtain ⟨x, h1, ⟨h2, h3⟩, h4⟩ := bG2 (N := N) hl (fun c => Agree A A.length c ∧ Told N A A.length c) (fun c _ h => ⟨h.1.step, h.2.step hN⟩) (ap7 A) (by simp [ap7]) ⟨bb6 A, br3 N A⟩
 exact ⟨x, h1, h2, h3, h4⟩
set_option maxRecDepth 20000
def aG6 (cl : Nat → Nat) (L : List Nat) (to : Nat) : Nat × List Nat :=
 match L.findIdx? (fun s => cl s == cl to) with
 | some k => (k, L)
 | none => (L.length, L ++ [to])
def M7 (cl : Nat → Nat) (nx : Nat → Nat → Nat) (x : Nat) : Nat → List Nat → List Nat × List Nat
 | 0, L => ([], L)
 | j + 1, L => ((M7 cl nx x j L).1 ++ [(aG6 cl (M7 cl nx x j L).2 (nx x j)).1], (aG6 cl (M7 cl nx x j L).2 (nx x j)).2)
def az5 (cl : Nat → Nat) (L : List Nat) : Prop := ∀ i j s t : Nat, L[i]? = some s → L[j]? = some t → cl s = cl t → i = j
theorem bY5 {cl : Nat → Nat} {L : List Nat} (h : az5 cl L) (to : Nat) : az5 cl (aG6 cl L to).2 ∧ (∀ i s : Nat, L[i]? = some s → (aG6 cl L to).2[i]? = some s) ∧ ∃ s, (aG6 cl L to).2[(aG6 cl L to).1]? = some s ∧ cl s = cl to := by
 unfold aG6
 cases hf : L.findIdx? (fun s => cl s == cl to) with
 | some k =>
  obtain ⟨hk, hk2, _⟩ := List.findIdx?_eq_some_iff_getElem.1 hf
  exact ⟨h, fun i s hs => hs, _, List.getElem?_eq_getElem hk, by simpa using hk2⟩
 | none =>
  have hn : ∀ (k s : Nat), L[k]? = some s → cl s ≠ cl to := fun k s hs e => by
   have := List.findIdx?_eq_none_iff.1 hf s (List.mem_of_getElem? hs)
   rw [e] at this
   simp at this
  refine ⟨fun i j s t hs ht e => ?_, fun i s hs => W1 hs, to, by simp, rfl⟩
  rcases H4 hs with hs | ⟨h1, h2⟩ <;> rcases H4 ht with ht | ⟨h1', h2'⟩
  ·exact h i j s t hs ht e
  ·rw [h2'] at e; exact absurd e (hn i s hs)
  ·rw [h2] at e; exact absurd e.symm (hn j t ht)
  ·omega
theorem az6 {cl : Nat → Nat} {nx : Nat → Nat → Nat} {x : Nat} {L : List Nat} (h : az5 cl L) : ∀ j : Nat, az5 cl (M7 cl nx x j L).2 ∧ (∀ i s : Nat, L[i]? = some s → (M7 cl nx x j L).2[i]? = some s) ∧ (M7 cl nx x j L).1.length = j ∧ ∀ m : Nat, m < j → ∃ k s : Nat, (M7 cl nx x j L).1[m]? = some k ∧ (M7 cl nx x j L).2[k]? = some s ∧ cl s = cl (nx x m)
 | 0 => ⟨h, fun _ _ hs => hs, rfl, fun m hm => by omega⟩
 | j + 1 => by
  obtain ⟨h1, h2, h3, h4⟩ := az6 h j
  rw [M7]
  generalize (M7 cl nx x j L).1 = R at *
  generalize (M7 cl nx x j L).2 = M at *
  obtain ⟨g1, g2, s, g3, g4⟩ := bY5 h1 (nx x j)
  refine ⟨g1, fun i s hs => g2 i s (h2 i s hs), by simp [h3], fun m hm => ?_⟩
  by_cases hmj : m < j
  ·obtain ⟨k, t, e1, e2, e3⟩ := h4 m hmj
   exact ⟨k, t, W1 e1, g2 k t e2, e3⟩
  ·have : m = j := by omega
   subst this
   exact ⟨_, s, by show (R ++ [_])[m]? = _; rw [List.getElem?_append_right (by omega), h3]; simp, g3, g4⟩
def goC (cl : Nat → Nat) (nx : Nat → Nat → Nat) : Nat → Nat → List Nat → List Nat → Option (List Nat × List Nat)
 | 0, _, _, _ => none
 | r + 1, i, L, R => match L[i]? with
  | none => some (L, R)
  | some x => goC cl nx r (i + 1) (M7 cl nx x 5 L).2 (R ++ (M7 cl nx x 5 L).1)
structure MidC (cl : Nat → Nat) (nx : Nat → Nat → Nat) (i : Nat) (L R : List Nat) : Prop where
 dist : az5 cl L
 le : i ≤ L.length
 len : R.length = i * 5
 row : ∀ a m : Nat, a < i → m < 5 → ∃ x k s : Nat, L[a]? = some x ∧ R[a * 5 + m]? = some k ∧ L[k]? = some s ∧ cl s = cl (nx x m)
theorem bY6 {l r : List Nat} {k b : Nat} (h : l[k]? = some b) : (l ++ r)[k]? = some b := by
 rw [List.getElem?_append_left (List.getElem?_eq_some_iff.1 h).1]; exact h
theorem br4 {cl : Nat → Nat} {nx : Nat → Nat → Nat} : ∀ (r i : Nat) (L R : List Nat), MidC cl nx i L R → ∀ p, goC cl nx r i L R = some p → MidC cl nx p.1.length p.1 p.2 ∧ ∀ a s : Nat, L[a]? = some s → p.1[a]? = some s
 | 0, i, L, R, _, p, hp => by cases hp
 | r + 1, i, L, R, h, p, hp => by
  rw [goC] at hp
  cases hx : L[i]? with
  | none =>
   rw [hx] at hp
   injection hp with hp
   subst hp
   have h1 := List.getElem?_eq_none_iff.1 hx
   have h2 := h.le
   have : i = L.length := by omega
   subst this
   exact ⟨h, fun a s hs => hs⟩
  | some x =>
   rw [hx] at hp
   have hp : goC cl nx r (i + 1) (M7 cl nx x 5 L).2 (R ++ (M7 cl nx x 5 L).1) = some p := hp
   obtain ⟨h1, h2, h3, h4⟩ := az6 (nx := nx) (x := x) h.dist 5
   have hx2 := h2 i x hx
   have hl := h.len
   obtain ⟨g1, g2⟩ := br4 r (i + 1) _ _ ⟨h1, (List.getElem?_eq_some_iff.1 hx2).1, by rw [List.length_append, h3, hl]; omega, fun a m ha hm => by
    by_cases hai : a < i
    ·obtain ⟨y, k, s, e1, e2, e3, e4⟩ := h.row a m hai hm
     exact ⟨y, k, s, h2 a y e1, bY6 e2, h2 k s e3, e4⟩
    ·have : a = i := by omega
     subst this
     obtain ⟨k, s, e1, e2, e3⟩ := h4 m hm
     exact ⟨x, k, s, hx2, by rw [List.getElem?_append_right (by omega), hl, show a * 5 + m - a * 5 = m by omega]; exact e1, e2, e3⟩⟩ p hp
   exact ⟨g1, fun a s hs => g2 a s (h2 a s hs)⟩
theorem ab7 {cl : Nat → Nat} {n : Nat} (hc : ∀ s, cl s < n) {L : List Nat} (h : az5 cl L) : L.length ≤ n := by
 have hnd : (L.map cl).Nodup := by
  unfold List.Nodup
  rw [List.pairwise_map, List.pairwise_iff_getElem]
  intro i j hi hj hij e
  have := h i j _ _ (List.getElem?_eq_getElem hi) (List.getElem?_eq_getElem hj) e
  omega
 have := List.Nodup.length_le_of_subset hnd (l₂ := List.range n) (fun y hy => by
  obtain ⟨s, _, rfl⟩ := List.mem_map.1 hy
  exact List.mem_range.2 (hc s))
 rwa [List.length_map, List.length_range] at this
theorem aV1 {cl : Nat → Nat} {nx : Nat → Nat → Nat} {n : Nat} (hc : ∀ s, cl s < n) : ∀ (r i : Nat) (L R : List Nat), az5 cl L → i ≤ L.length → n + 1 - i ≤ r → ∃ p, goC cl nx r i L R = some p
 | 0, i, L, R, h, hi, hr => by
  have := ab7 hc h
  omega
 | r + 1, i, L, R, h, hi, hr => by
  rw [goC]
  cases hx : L[i]? with
  | none => exact ⟨_, rfl⟩
  | some x =>
   obtain ⟨h1, h2, _, _⟩ := az6 (nx := nx) (x := x) h 5
   have := (List.getElem?_eq_some_iff.1 (h2 i x hx)).1
   exact aV1 hc r (i + 1) _ _ h1 this (by omega)
set_option maxRecDepth 20000
theorem Ended.get {N len x} (h : Ended N len x) {s : Nat} (hs : s < len) : ∃ k, x[s]? = some k := by
 obtain ⟨c2, F1, c1, F2, h1, h2, he⟩ := h
 exact h2.get hs
theorem br5 {N : List Int} {len : Nat} {x L R : List Nat} (hE : Ended N len x) (hN : ∀ i, i < 5 * len → 0 ≤ N.getD i 0 ∧ N.getD i 0 < len) (hL : ∀ a s : Nat, L[a]? = some s → s < len)
  (h : MidC (fun s => x.getD s 0) (fun s m => (N.getD (s * 5 + m) 0).toNat) L.length L R) : ∀ (w : List Nat) (a s s0 : Nat), (∀ m ∈ w, m < 5) → L[a]? = some s → s0 < len → x[s]? = x[s0]? → ∃ t, L[goS (R.map fun k : Nat => (k : Int)) a w]? = some t ∧ x[t]? = x[goS N s0 w]?
 | [], a, s, s0, _, hs, _, he => ⟨s, hs, he⟩
 | m :: w, a, s, s0, hw, hs, h0, he => by
  have hm := hw m (List.mem_cons_self ..)
  have hsl := hL a s hs
  obtain ⟨y, k, t, e1, e2, e3, e4⟩ := h.row a m (List.getElem?_eq_some_iff.1 hs).1 hm
  rw [hs] at e1
  injection e1 with e1
  subst e1
  have htl := hL k t e3
  have b1 := hN (s * 5 + m) (by omega)
  have b2 := hN (s0 * 5 + m) (by omega)
  obtain ⟨p, hp⟩ := hE.get htl
  obtain ⟨q, hq⟩ := hE.get (s := (N.getD (s * 5 + m) 0).toNat) (by omega)
  have e4 : x.getD t 0 = x.getD (N.getD (s * 5 + m) 0).toNat 0 := e4
  rw [B4 hp, B4 hq] at e4
  obtain ⟨c, hc⟩ := hE.get hsl
  have e5 := hE.same hN hc (he ▸ hc) hm
  have e6 : (R.map fun k : Nat => (k : Int)).getD (a * 5 + m) 0 = k := by simp [List.getD, e2]
  obtain ⟨u, u1, u2⟩ := br5 hE hN hL h w k t (N.getD (s0 * 5 + m) 0).toNat (fun z hz => hw z (List.mem_cons_of_mem _ hz)) e3 (by omega) (by rw [hp, ← e5, hq, e4])
  refine ⟨u, ?_, u2⟩
  rw [goS, e6]
  exact u1
theorem bG3 {cl : Nat → Nat} {L : List Nat} {to : Nat} {p : Nat → Prop} (h : ∀ s ∈ L, p s) (ht : p to) : ∀ s ∈ (aG6 cl L to).2, p s := by
 unfold aG6
 cases L.findIdx? (fun s => cl s == cl to) with
 | some k => exact h
 | none =>
  intro s hs
  rcases List.mem_append.1 hs with hs | hs
  ·exact h s hs
  ·rw [List.mem_singleton.1 hs]; exact ht
theorem az7 {cl : Nat → Nat} {nx : Nat → Nat → Nat} {x : Nat} {L : List Nat} {p : Nat → Prop} (h : ∀ s ∈ L, p s) : ∀ j : Nat, (∀ m, m < j → p (nx x m)) → ∀ s ∈ (M7 cl nx x j L).2, p s
 | 0, _ => h
 | j + 1, hn => by
  rw [M7]
  exact bG3 (az7 h j (fun m hm => hn m (by omega))) (hn j (by omega))
theorem br6 {cl : Nat → Nat} {nx : Nat → Nat → Nat} {p : Nat → Prop} (hn : ∀ x m, p x → m < 5 → p (nx x m)) : ∀ (r i : Nat) (L R : List Nat), (∀ s ∈ L, p s) → ∀ q, goC cl nx r i L R = some q → ∀ s ∈ q.1, p s
 | 0, i, L, R, _, q, hq => by cases hq
 | r + 1, i, L, R, h, q, hq => by
  rw [goC] at hq
  cases hx : L[i]? with
  | none =>
   rw [hx] at hq
   injection hq with hq
   subst hq
   exact h
  | some x =>
   rw [hx] at hq
   have hq : goC cl nx r (i + 1) (M7 cl nx x 5 L).2 (R ++ (M7 cl nx x 5 L).1) = some q := hq
   exact br6 hn r (i + 1) _ _ (az7 h 5 (fun m hm => hn x m (h x (List.mem_of_getElem? hx)) hm)) q hq
set_option maxRecDepth 20000
def Eqv (N : List Int) (A : List Bool) (M : List Int) (B : List Bool) (s t : Nat) : Prop := ∀ w : List Nat, (∀ m ∈ w, m < 5) → A.getD (goS N s w) false = B.getD (goS M t w) false
theorem Eqv.symm {N A M B s t} (h : Eqv N A M B s t) : Eqv M B N A t s := fun w hw => (h w hw).symm
theorem Eqv.trans {N A M B K C s t u} (h : Eqv N A M B s t) (h' : Eqv M B K C t u) : Eqv N A K C s u := fun w hw => (h w hw).trans (h' w hw)
theorem Eqv.next {N A M B s t m} (h : Eqv N A M B s t) (hm : m < 5) : Eqv N A M B (N.getD (s * 5 + m) 0).toNat (M.getD (t * 5 + m) 0).toNat := fun w hw => by
 have := h (m :: w) (fun y hy => by
  rcases List.mem_cons.1 hy with rfl | hy
  ·exact hm
  ·exact hw y hy)
 exact this
theorem Eqv.acc {N A M B s t} (h : Eqv N A M B s t) : A.getD s false = B.getD t false := h [] (fun y hy => (List.not_mem_nil hy).elim)
structure OkD (N : List Int) (A : List Bool) : Prop where
 l : 1 ≤ A.length
 e : ∀ i, i < 5 * A.length → 0 ≤ N.getD i 0 ∧ N.getD i 0 < A.length
theorem OkD.next {N A} (h : OkD N A) {s m : Nat} (hs : s < A.length) (hm : m < 5) : (N.getD (s * 5 + m) 0).toNat < A.length := by
 have := h.e (s * 5 + m) (by omega)
 omega
theorem OkD.go {N A} (h : OkD N A) : ∀ (w : List Nat) (s : Nat), (∀ m ∈ w, m < 5) → s < A.length → goS N s w < A.length
 | [], s, _, hs => hs
 | m :: w, s, hw, hs => h.go w _ (fun y hy => hw y (List.mem_cons_of_mem _ hy)) (h.next hs (hw m (List.mem_cons_self ..)))
theorem bY7 {N A x} (h : OkD N A) (h1 : Agree A A.length x) (h2 : Told N A A.length x) (h3 : Ended N A.length x) {s t : Nat} (hs : s < A.length) (ht : t < A.length) : x.getD s 0 = x.getD t 0 ↔ Eqv N A N A s t := by
 constructor
 ·intro e w
  induction w generalizing s t with
  | nil => exact fun _ => h1 s t hs ht e
  | cons m w ih =>
   intro hw
   have hm := hw m (List.mem_cons_self ..)
   obtain ⟨k, hk⟩ := h3.get hs
   obtain ⟨l, hl⟩ := h3.get ht
   rw [B4 hk, B4 hl] at e
   subst e
   have e2 := h3.same h.e hk hl hm
   refine ih (h.next hs hm) (h.next ht hm) ?_ (fun y hy => hw y (List.mem_cons_of_mem _ hy))
   exact congrArg (fun o : Option Nat => o.getD 0) e2
 ·intro he
  by_cases e : x.getD s 0 = x.getD t 0
  ·exact e
  ·obtain ⟨w, w1, w2⟩ := h2 s t hs ht e
   exact absurd (he w w1) w2
def Rl (E : Nat → Nat → Prop) (L L' : List Nat) : Prop := L.length = L'.length ∧ ∀ i s s' : Nat, L[i]? = some s → L'[i]? = some s' → E s s'
theorem Rl.snoc {E : Nat → Nat → Prop} {L L' : List Nat} (h : Rl E L L') {s s' : Nat} (hs : E s s') : Rl E (L ++ [s]) (L' ++ [s']) := by
 refine ⟨by simp [h.1], fun i a a' ha ha' => ?_⟩
 rcases H4 ha with ha | ⟨h1, h2⟩ <;> rcases H4 ha' with ha' | ⟨h1', h2'⟩
 ·exact h.2 i a a' ha ha'
 ·have := (List.getElem?_eq_some_iff.1 ha).1
  have := h.1
  omega
 ·have := (List.getElem?_eq_some_iff.1 ha').1
  have := h.1
  omega
 ·rw [h2, h2']; exact hs
theorem Rl.get {E : Nat → Nat → Prop} {L L' : List Nat} (h : Rl E L L') (i : Nat) : (L[i]? = none ∧ L'[i]? = none) ∨ ∃ s s', L[i]? = some s ∧ L'[i]? = some s' ∧ E s s' := by
 have hl := h.1
 by_cases hi : i < L.length
 ·have e1 := List.getElem?_eq_getElem hi
  have e2 := List.getElem?_eq_getElem (l := L') (i := i) (by omega)
  exact .inr ⟨_, _, e1, e2, h.2 _ _ _ e1 e2⟩
 ·exact .inl ⟨List.getElem?_eq_none (by omega), List.getElem?_eq_none (by omega)⟩
section
variable {cl cl' : Nat → Nat} {nx nx' : Nat → Nat → Nat} {E : Nat → Nat → Prop} (h1 : ∀ s s' t t', E s s' → E t t' → (cl s = cl t ↔ cl' s' = cl' t')) (h2 : ∀ s s' m, m < 5 → E s s' → E (nx s m) (nx' s' m))
include h1 in
theorem br7 {L L' : List Nat} (hL : Rl E L L') {to to' : Nat} (ht : E to to') : (aG6 cl L to).1 = (aG6 cl' L' to').1 ∧ Rl E (aG6 cl L to).2 (aG6 cl' L' to').2 := by
 have he : L.findIdx? (fun s => cl s == cl to) = L'.findIdx? (fun s => cl' s == cl' to') := by
  have e : L.map (fun s => cl s == cl to) = L'.map (fun s => cl' s == cl' to') := by
   refine List.ext_getElem? fun i => ?_
   rw [List.getElem?_map, List.getElem?_map]
   rcases hL.get i with ⟨e1, e2⟩ | ⟨s, s', e1, e2, e3⟩
   ·rw [e1, e2]; rfl
   ·rw [e1, e2]
    have := h1 s s' to to' e3 ht
    simp only [Option.map_some, Option.some.injEq]
    rw [Bool.eq_iff_iff]
    simpa using this
  have e3 := congrArg (List.findIdx? id) e
  rw [List.findIdx?_map, List.findIdx?_map] at e3
  exact e3
 unfold aG6
 rw [he]
 cases L'.findIdx? (fun s => cl' s == cl' to') with
 | some k => exact ⟨rfl, hL⟩
 | none => exact ⟨hL.1, hL.snoc ht⟩
include h1 h2 in
theorem aG7 {L L' : List Nat} (hL : Rl E L L') {x x' : Nat} (hx : E x x') : ∀ j, j ≤ 5 → (M7 cl nx x j L).1 = (M7 cl' nx' x' j L').1 ∧ Rl E (M7 cl nx x j L).2 (M7 cl' nx' x' j L').2
 | 0, _ => ⟨rfl, hL⟩
 | j + 1, hj => by
  obtain ⟨i1, i2⟩ := aG7 hL hx j (by omega)
  obtain ⟨g1, g2⟩ := br7 h1 i2 (h2 x x' j (by omega) hx)
  rw [M7, M7]
  exact ⟨by rw [i1, g1], g2⟩
include h1 h2 in
theorem az8 : ∀ (r r' i : Nat) (L L' R : List Nat) (p p' : List Nat × List Nat), Rl E L L' → goC cl nx r i L R = some p → goC cl' nx' r' i L' R = some p' → Rl E p.1 p'.1 ∧ p.2 = p'.2
 | 0, _, _, _, _, _, _, _, _, h, _ => by cases h
 | r + 1, 0, _, _, _, _, _, _, _, _, h => by cases h
 | r + 1, r' + 1, i, L, L', R, p, p', hL, h, h' => by
  rw [goC] at h h'
  rcases hL.get i with ⟨e1, e2⟩ | ⟨s, s', e1, e2, e3⟩
  ·rw [e1] at h
   rw [e2] at h'
   injection h with h
   injection h' with h'
   subst h h'
   exact ⟨hL, rfl⟩
  ·rw [e1] at h
   rw [e2] at h'
   have h : goC cl nx r (i + 1) (M7 cl nx s 5 L).2 (R ++ (M7 cl nx s 5 L).1) = some p := h
   have h' : goC cl' nx' r' (i + 1) (M7 cl' nx' s' 5 L').2 (R ++ (M7 cl' nx' s' 5 L').1) = some p' := h'
   obtain ⟨g1, g2⟩ := aG7 h1 h2 hL e3 5 (Nat.le_refl _)
   rw [← g1] at h'
   exact az8 r r' (i + 1) _ _ _ p p' g2 h h'
end
def N3 (N : List Int) (A : List Bool) : List Nat := (ai4 N A.length (A.length + 2) (ap7 A) 0).getD []
def P9 (N : List Int) (s m : Nat) : Nat := (N.getD (s * 5 + m) 0).toNat
def I4 (N : List Int) (A : List Bool) : List Nat × List Nat := (goC (fun s => (N3 N A).getD s 0) (P9 N) (A.length + 2) 0 [0] []).getD ([], [])
def R5 (N : List Int) (A : List Bool) : List Int := (I4 N A).2.map fun k : Nat => (k : Int)
def I5 (N : List Int) (A : List Bool) : List Bool := (I4 N A).1.map fun s => A.getD s false
theorem ab8 {N A} (h : OkD N A) : ai4 N A.length (A.length + 2) (ap7 A) 0 = some (N3 N A) ∧ Agree A A.length (N3 N A) ∧ Told N A A.length (N3 N A) ∧ Ended N A.length (N3 N A) := by
 obtain ⟨x, h1, h2, h3, h4⟩ := bb7 h.l h.e
 have e : N3 N A = x := by rw [N3, h1]; rfl
 rw [e]
 exact ⟨h1, h2, h3, h4⟩
theorem az9 {N A} (h : OkD N A) {s t : Nat} (hs : s < A.length) (ht : t < A.length) : (N3 N A).getD s 0 = (N3 N A).getD t 0 ↔ Eqv N A N A s t := by
 obtain ⟨_, h2, h3, h4⟩ := ab8 h
 exact bY7 h h2 h3 h4 hs ht
theorem br8 {N A} (h : OkD N A) (s : Nat) : (N3 N A).getD s 0 < A.length := by
 obtain ⟨_, _, _, c2, F1, c1, F2, h1, h2, he⟩ := ab8 h
 have hl := h.l
 cases hx : (N3 N A)[s]? with
 | none => simp only [List.getD, hx]; exact hl
 | some k =>
  have := (h2.lt hx).2
  have := h2.most
  simp only [List.getD, hx]
  exact Nat.lt_of_lt_of_le (by assumption) (by assumption)
theorem ap8 (cl : Nat → Nat) (s : Nat) : az5 cl [s] := fun i j a b ha hb _ => by
 have h1 := (List.getElem?_eq_some_iff.1 ha).1
 have h2 := (List.getElem?_eq_some_iff.1 hb).1
 simp at h1 h2
 omega
structure MinOk (N : List Int) (A : List Bool) (L R : List Nat) : Prop where
 run : goC (fun s => (N3 N A).getD s 0) (P9 N) (A.length + 2) 0 [0] [] = some (L, R)
 mid : MidC (fun s => (N3 N A).getD s 0) (P9 N) L.length L R
 head : L[0]? = some 0
 lt : ∀ a s : Nat, L[a]? = some s → s < A.length
theorem X4 {N A} (h : OkD N A) : MinOk N A (I4 N A).1 (I4 N A).2 := by
 have hl := h.l
 obtain ⟨p, hp⟩ := aV1 (cl := fun s => (N3 N A).getD s 0) (nx := P9 N) (n := A.length) (fun s => br8 h s) (A.length + 2) 0 [0] [] (ap8 _ 0) (by simp) (by omega)
 have e : I4 N A = p := by rw [I4, hp]; rfl
 rw [e]
 obtain ⟨h1, h2⟩ := br4 _ _ _ _ ⟨ap8 _ 0, by simp, rfl, fun a m ha => by omega⟩ p hp
 have h3 := br6 (p := fun s => s < A.length) (fun x m hx hm => h.next hx hm) _ _ _ _ (fun s hs => by rw [List.mem_singleton.1 hs]; exact hl) p hp
 exact ⟨hp, h1, h2 0 0 rfl, fun a s hs => h3 s (List.mem_of_getElem? hs)⟩
theorem ab9 (N A) : (I5 N A).length = (I4 N A).1.length := by simp [I5]
theorem bG4 {N A} (h : OkD N A) : (R5 N A).length = 5 * (I5 N A).length := by
 have := (X4 h).mid.len
 rw [R5, List.length_map, ab9]
 omega
theorem bN4 {N A} (h : OkD N A) : 1 ≤ (I5 N A).length ∧ (I5 N A).length ≤ A.length := by
 have hm := X4 h
 rw [ab9]
 refine ⟨(List.getElem?_eq_some_iff.1 hm.head).1, ab7 (fun s => br8 h s) hm.mid.dist⟩
theorem bY8 {N A} (h : OkD N A) {a m : Nat} (ha : a < (I5 N A).length) (hm : m < 5) : ∃ x k s : Nat, (I4 N A).1[a]? = some x ∧ (R5 N A).getD (a * 5 + m) 0 = (k : Int) ∧ k < (I5 N A).length ∧ (I4 N A).1[k]? = some s ∧ (N3 N A).getD s 0 = (N3 N A).getD (P9 N x m) 0 := by
 rw [ab9] at ha
 obtain ⟨x, k, s, e1, e2, e3, e4⟩ := (X4 h).mid.row a m ha hm
 exact ⟨x, k, s, e1, by simp [R5, List.getD, e2], by rw [ab9]; exact (List.getElem?_eq_some_iff.1 e3).1, e3, e4⟩
theorem aN9 {N A} (h : OkD N A) : OkD (R5 N A) (I5 N A) := by
 refine ⟨(bN4 h).1, fun i hi => ?_⟩
 obtain ⟨x, k, s, _, e2, e3, _⟩ := bY8 h (a := i / 5) (m := i % 5) (by omega) (by omega)
 rw [show i = i / 5 * 5 + i % 5 by omega, e2]
 omega
theorem bY9 {N A} {a s : Nat} (hs : (I4 N A).1[a]? = some s) : (I5 N A).getD a false = A.getD s false := by simp [I5, List.getD, hs]
theorem br9 {N A} (h : OkD N A) {a s : Nat} (hs : (I4 N A).1[a]? = some s) : Eqv N A (R5 N A) (I5 N A) s a := fun w hw => by
 have hm := X4 h
 obtain ⟨_, h2, _, h4⟩ := ab8 h
 obtain ⟨t, h5, h6⟩ := br5 h4 h.e hm.lt hm.mid w a s s hw hs (hm.lt a s hs) rfl
 have h5 : (I4 N A).1[goS (R5 N A) a w]? = some t := h5
 rw [bY9 h5]
 refine (h2 t _ (hm.lt _ _ h5) (h.go w s hw (hm.lt a s hs)) ?_).symm
 exact congrArg (fun o : Option Nat => o.getD 0) h6
theorem bZ0 {N A} (h : OkD N A) : Eqv N A (R5 N A) (I5 N A) 0 0 := br9 h (X4 h).head
theorem bZ1 {N A M B} (h : OkD N A) (h' : OkD M B) (he : Eqv N A M B 0 0) : R5 N A = R5 M B ∧ I5 N A = I5 M B := by
 have hm := X4 h
 have hm' := X4 h'
 obtain ⟨g1, g2⟩ := az8 (cl := fun s => (N3 N A).getD s 0) (cl' := fun s => (N3 M B).getD s 0) (nx := P9 N) (nx' := P9 M) (E := fun s t => s < A.length ∧ t < B.length ∧ Eqv N A M B s t)
  (fun s s' t t' ⟨a1, a2, a3⟩ ⟨b1, b2, b3⟩ => by
   rw [az9 h a1 b1, az9 h' a2 b2]
   exact ⟨fun e => (a3.symm.trans e).trans b3, fun e => (a3.trans e).trans b3.symm⟩)
  (fun s s' m hm ⟨a1, a2, a3⟩ => ⟨h.next a1 hm, h'.next a2 hm, a3.next hm⟩)
  _ _ _ _ _ _ _ _ (⟨rfl, fun i a b ha hb => by
   have h1 := (List.getElem?_eq_some_iff.1 ha).1
   simp at h1
   subst h1
   simp at ha hb
   subst ha hb
   exact ⟨h.l, h'.l, he⟩⟩) hm.run hm'.run
 refine ⟨by rw [R5, R5]; exact congrArg _ g2, ?_⟩
 refine List.ext_getElem? fun i => ?_
 rw [I5, I5, List.getElem?_map, List.getElem?_map]
 rcases g1.get i with ⟨e1, e2⟩ | ⟨s, s', e1, e2, e3⟩
 ·have e1 : (I4 N A).1[i]? = none := e1
  have e2 : (I4 M B).1[i]? = none := e2
  rw [e1, e2]; rfl
 ·have e1 : (I4 N A).1[i]? = some s := e1
  have e2 : (I4 M B).1[i]? = some s' := e2
  rw [e1, e2]
  simp only [Option.map_some]
  rw [e3.2.2.acc]
theorem bs0 {N A} (h : OkD N A) : R5 (R5 N A) (I5 N A) = R5 N A ∧ I5 (R5 N A) (I5 N A) = I5 N A := by
 obtain ⟨h1, h2⟩ := bZ1 h (aN9 h) (bZ0 h)
 exact ⟨h1.symm, h2.symm⟩
theorem U3 {A : List Bool} {s : Nat} (h : s < A.length) : (A.map (!·)).getD s false = !A.getD s false := by simp [List.getD, h]
theorem aV2 {N A} (h : OkD N A) : OkD N (A.map (!·)) := ⟨by rw [List.length_map]; exact h.l, by rw [List.length_map]; exact h.e⟩
theorem bG5 {N A M B s t} (h : OkD N A) (h' : OkD M B) (hs : s < A.length) (ht : t < B.length) : Eqv N (A.map (!·)) M (B.map (!·)) s t ↔ Eqv N A M B s t := by
 constructor
 ·intro he w hw
  have := he w hw
  rw [U3 (h.go w s hw hs), U3 (h'.go w t hw ht)] at this
  simpa using this
 ·intro he w hw
  rw [U3 (h.go w s hw hs), U3 (h'.go w t hw ht), he w hw]
theorem bG6 {N A} (h : OkD N A) : R5 N (A.map (!·)) = R5 N A ∧ I5 N (A.map (!·)) = (I5 N A).map (!·) := by
 have hf := aV2 h
 have hm := X4 h
 have hm' := X4 hf
 obtain ⟨g1, g2⟩ := az8 (cl := fun s => (N3 N A).getD s 0) (cl' := fun s => (N3 N (A.map (!·))).getD s 0) (nx := P9 N) (nx' := P9 N) (E := fun s t => s < A.length ∧ s = t)
  (fun s s' t t' ⟨a1, a2⟩ ⟨b1, b2⟩ => by
   subst a2 b2
   rw [az9 h a1 b1, az9 hf (by rw [List.length_map]; exact a1) (by rw [List.length_map]; exact b1), bG5 h h a1 b1])
  (fun s s' m hm ⟨a1, a2⟩ => ⟨h.next a1 hm, by rw [a2]⟩)
  _ _ _ _ _ _ _ _ (⟨rfl, fun i a b ha hb => by
   have h1 := (List.getElem?_eq_some_iff.1 ha).1
   simp at h1
   subst h1
   simp at ha hb
   subst ha hb
   exact ⟨h.l, rfl⟩⟩) hm.run hm'.run
 refine ⟨by rw [R5, R5]; exact congrArg _ g2.symm, ?_⟩
 refine List.ext_getElem? fun i => ?_
 rw [List.getElem?_map, I5, I5, List.getElem?_map, List.getElem?_map]
 rcases g1.get i with ⟨e1, e2⟩ | ⟨s, s', e1, e2, e3⟩
 ·have e1 : (I4 N A).1[i]? = none := e1
  have e2 : (I4 N (A.map (!·))).1[i]? = none := e2
  rw [e1, e2]; rfl
 ·have e1 : (I4 N A).1[i]? = some s := e1
  have e2 : (I4 N (A.map (!·))).1[i]? = some s' := e2
  rw [e1, e2]
  simp only [Option.map_some]
  rw [← e3.2, U3 e3.1]
theorem bb8 {N A} (h : OkD N A) : R5 (R5 N A) ((I5 N A).map (!·)) = R5 N A ∧ I5 (R5 N A) ((I5 N A).map (!·)) = (I5 N A).map (!·) := by
 have h' := aN9 h
 obtain ⟨h1, h2⟩ := bG6 h'
 obtain ⟨h3, h4⟩ := bs0 h
 rw [h1, h2, h3, h4]
 exact ⟨rfl, rfl⟩
end Go.Proofs.YtpmjpogcaglphaaDoor.A
namespace Go.Proofs.YtpmjpogcaglphaaDoor.A
open Go
set_option maxRecDepth 20000
def C5 (w : List Nat) : Nat := w.foldl (fun c m => 5 * c + m + 1) 0
theorem K2 (w : List Nat) (m : Nat) : C5 (w ++ [m]) = 5 * C5 w + m + 1 := by simp [C5]
structure Ent where
 x : Nat
 y : Nat
 b : Int
 m : Nat
 w : List Nat
def bG7 : Ent := ⟨0, 0, -1, 0, []⟩
def bw0 (N M : List Int) (i : Nat) (e : Ent) (m : Nat) : Ent := ⟨P9 N e.x m, P9 M e.y m, i, m, e.w ++ [m]⟩
def aG8 (l : List Ent) (e : Ent) : List Ent := if l.any (fun p => p.x == e.x && p.y == e.y) then l else l ++ [e]
def bd8 (N M : List Int) (i : Nat) (e : Ent) : Nat → List Ent → List Ent
 | 0, l => l
 | m + 1, l => aG8 (bd8 N M i e m l) (bw0 N M i e m)
def bw1 (N : List Int) (A : List Bool) (M : List Int) (B : List Bool) : Nat → Nat → List Ent → Option (Option (List Nat))
 | 0, _, _ => none
 | r + 1, i, l => match l[i]? with
  | none => some none
  | some e => if A.getD e.x false = B.getD e.y false then bw1 N A M B r (i + 1) (bd8 N M i e 5 l) else some (some e.w)
structure QMid (N : List Int) (A : List Bool) (M : List Int) (B : List Bool) (i : Nat) (l : List Ent) (c : Nat) : Prop where
 head : l[0]? = some bG7
 back : ∀ (k : Nat) e, l[k]? = some e → 0 < k → ∃ (j : Nat) (f : Ent), e.b = (j : Int) ∧ j < k ∧ e.m < 5 ∧ l[j]? = some f ∧ e.w = f.w ++ [e.m]
 word : ∀ e ∈ l, (∀ z ∈ e.w, z < 5) ∧ goS N 0 e.w = e.x ∧ goS M 0 e.w = e.y
 mono : ∀ (j k : Nat) e f, l[j]? = some e → l[k]? = some f → j < k → C5 e.w < C5 f.w
 top : ∀ e ∈ l, C5 e.w < c
 done : ∀ (k : Nat) e, k < i → l[k]? = some e → A.getD e.x false = B.getD e.y false ∧ ∀ m, m < 5 → ∃ f ∈ l, f.x = P9 N e.x m ∧ f.y = P9 M e.y m ∧ C5 f.w ≤ 5 * C5 e.w + m + 1
 uniq : ∀ (j k : Nat) e f, l[j]? = some e → l[k]? = some f → e.x = f.x → e.y = f.y → j = k
theorem ac0 (N : List Int) : ∀ (w : List Nat) (s m : Nat), goS N s (w ++ [m]) = P9 N (goS N s w) m
 | [], _, _ => rfl
 | a :: w, s, m => by
  rw [List.cons_append, goS, goS]
  exact ac0 N w _ m
theorem aj2 {l : List Ent} {e f : Ent} {k : Nat} (h : l[k]? = some f) : (aG8 l e)[k]? = some f := by
 unfold aG8
 split
 ·exact h
 ·exact W1 h
theorem aV3 {l : List Ent} {e f : Ent} (h : f ∈ l) : f ∈ aG8 l e := by
 unfold aG8
 split
 ·exact h
 ·exact List.mem_append_left _ h
theorem af2 {l : List Ent} {e f : Ent} {k : Nat} (h : (aG8 l e)[k]? = some f) : l[k]? = some f ∨ (k = l.length ∧ f = e ∧ ∀ p ∈ l, ¬ (p.x = e.x ∧ p.y = e.y)) := by
 unfold aG8 at h
 split at h
 ·exact .inl h
 ·rename_i hn
  rcases H4 h with h | ⟨h1, h2⟩
  ·exact .inl h
  ·refine .inr ⟨h1, h2, fun p hp hc => hn ?_⟩
   rw [List.any_eq_true]
   exact ⟨p, hp, by simp [hc.1, hc.2]⟩
theorem bZ2 (l : List Ent) (e : Ent) : ∃ f ∈ aG8 l e, f.x = e.x ∧ f.y = e.y ∧ (f ∈ l ∨ f = e) := by
 unfold aG8
 split
 ·rename_i h
  obtain ⟨p, hp, h⟩ := List.any_eq_true.1 h
  simp only [Bool.and_eq_true, beq_iff_eq] at h
  exact ⟨p, hp, h.1, h.2, .inl hp⟩
 ·exact ⟨e, by simp, rfl, rfl, .inr rfl⟩
theorem aV4 {l : List Ent} {e : Ent} {p : Ent → Prop} (h : ∀ f ∈ l, p f) (he : p e) : ∀ f ∈ aG8 l e, p f := by
 unfold aG8
 split
 ·exact h
 ·intro f hf
  rcases List.mem_append.1 hf with hf | hf
  ·exact h f hf
  ·rw [List.mem_singleton.1 hf]; exact he
structure QRow (N : List Int) (A : List Bool) (M : List Int) (B : List Bool) (i : Nat) (e : Ent) (j : Nat) (l : List Ent) : Prop where
 mid : QMid N A M B i l (5 * C5 e.w + j + 1)
 at_ : l[i]? = some e
 acc : A.getD e.x false = B.getD e.y false
 row : ∀ m, m < j → ∃ f ∈ l, f.x = P9 N e.x m ∧ f.y = P9 M e.y m ∧ C5 f.w ≤ 5 * C5 e.w + m + 1
theorem QRow.step {N A M B i e j l} (h : QRow N A M B i e j l) (hj : j < 5) : QRow N A M B i e (j + 1) (aG8 l (bw0 N M i e j)) := by
 have hw := h.mid.word e (List.mem_of_getElem? h.at_)
 have hc : C5 (bw0 N M i e j).w = 5 * C5 e.w + j + 1 := K2 e.w j
 refine ⟨⟨aj2 h.mid.head, fun k f hk hp => ?_, aV4 h.mid.word ⟨fun z hz => ?_, ?_, ?_⟩, fun a b f g hf hg hab => ?_, aV4 (fun f hf => by have := h.mid.top f hf; omega) (by rw [hc]; omega), fun k f hk hf => ?_, fun a b f g hf hg ex ey => ?_⟩, aj2 h.at_, h.acc, fun m hm => ?_⟩
 ·rcases af2 hk with hk | ⟨h1, h2, _⟩
  ·obtain ⟨q, g, e1, e2, e3, e4, e5⟩ := h.mid.back k f hk hp
   exact ⟨q, g, e1, e2, e3, aj2 e4, e5⟩
  ·subst h2
   refine ⟨i, e, rfl, ?_, hj, aj2 h.at_, rfl⟩
   rw [h1]
   exact (List.getElem?_eq_some_iff.1 h.at_).1
 ·have hz : z ∈ e.w ++ [j] := hz
  rcases List.mem_append.1 hz with hz | hz
  ·exact hw.1 z hz
  ·rw [List.mem_singleton.1 hz]; exact hj
 ·show goS N 0 (e.w ++ [j]) = _
  rw [ac0, hw.2.1]; rfl
 ·show goS M 0 (e.w ++ [j]) = _
  rw [ac0, hw.2.2]; rfl
 ·rcases af2 hf with hf | ⟨h1, h2, _⟩ <;> rcases af2 hg with hg | ⟨h1', h2', _⟩
  ·exact h.mid.mono a b f g hf hg hab
  ·rw [h2', hc]
   exact h.mid.top f (List.mem_of_getElem? hf)
  ·have := (List.getElem?_eq_some_iff.1 hg).1
   omega
  ·omega
 ·rcases af2 hf with hf | ⟨h1, _, _⟩
  ·obtain ⟨g1, g2⟩ := h.mid.done k f hk hf
   refine ⟨g1, fun m hm => ?_⟩
   obtain ⟨g, hg, e1, e2, e3⟩ := g2 m hm
   exact ⟨g, aV3 hg, e1, e2, e3⟩
  ·have := (List.getElem?_eq_some_iff.1 h.at_).1
   omega
 ·rcases af2 hf with hf | ⟨h1, h2, h3⟩ <;> rcases af2 hg with hg | ⟨h1', h2', h3'⟩
  ·exact h.mid.uniq a b f g hf hg ex ey
  ·subst h2'
   exact absurd ⟨ex, ey⟩ (h3' f (List.mem_of_getElem? hf))
  ·subst h2
   exact absurd ⟨ex.symm, ey.symm⟩ (h3 g (List.mem_of_getElem? hg))
  ·omega
 ·by_cases hmj : m < j
  ·obtain ⟨g, hg, e1, e2, e3⟩ := h.row m hmj
   exact ⟨g, aV3 hg, e1, e2, e3⟩
  ·have : m = j := by omega
   subst this
   obtain ⟨f, hf, e1, e2, e3⟩ := bZ2 l (bw0 N M i e m)
   refine ⟨f, hf, e1, e2, ?_⟩
   rcases e3 with e3 | e3
   ·have := h.mid.top f e3
    omega
   ·rw [e3, hc]; exact Nat.le_refl _
theorem aO0 {N A M B i e l} (h : QMid N A M B i l (5 * C5 e.w + 1)) (he : l[i]? = some e) (ha : A.getD e.x false = B.getD e.y false) : ∀ j, j ≤ 5 → QRow N A M B i e j (bd8 N M i e j l)
 | 0, _ => ⟨h, he, ha, fun m hm => by omega⟩
 | j + 1, hj => (aO0 h he ha j (by omega)).step (by omega)
theorem QRow.next {N A M B i e l} (h : QRow N A M B i e 5 l) : ∀ e', l[i + 1]? = some e' → QMid N A M B (i + 1) l (5 * C5 e'.w + 1) := fun e' he' => by
 refine ⟨h.mid.head, h.mid.back, h.mid.word, h.mid.mono, fun f hf => ?_, fun k f hk hf => ?_, h.mid.uniq⟩
 ·have := h.mid.top f hf
  have := h.mid.mono i (i + 1) e e' h.at_ he' (by omega)
  omega
 ·by_cases hki : k < i
  ·exact h.mid.done k f hki hf
  ·have : k = i := by omega
   subst this
   rw [h.at_] at hf
   injection hf with hf
   subst hf
   exact ⟨h.acc, h.row⟩
theorem QRow.done {N A M B i e l} (h : QRow N A M B i e 5 l) : QMid N A M B (i + 1) l (5 * C5 e.w + 6) := by
 refine ⟨h.mid.head, h.mid.back, h.mid.word, h.mid.mono, h.mid.top, fun k f hk hf => ?_, h.mid.uniq⟩
 by_cases hki : k < i
 ·exact h.mid.done k f hki hf
 ·have : k = i := by omega
  subst this
  rw [h.at_] at hf
  injection hf with hf
  subst hf
  exact ⟨h.acc, h.row⟩
theorem QMid.start (N A M B) : QMid N A M B 0 [bG7] 1 := by
 refine ⟨rfl, fun k e hk hp => ?_, fun e he => ?_, fun j k e f he hf hjk => ?_, fun e he => ?_, fun k e hk => by omega, fun j k e f he hf _ _ => ?_⟩
 ·have := (List.getElem?_eq_some_iff.1 hk).1
  simp at this
  omega
 ·rw [List.mem_singleton.1 he]
  exact ⟨fun z hz => by simp [bG7] at hz, rfl, rfl⟩
 ·have := (List.getElem?_eq_some_iff.1 hf).1
  simp at this
  omega
 ·rw [List.mem_singleton.1 he]
  exact Nat.zero_lt_one
 ·have h1 := (List.getElem?_eq_some_iff.1 he).1
  have h2 := (List.getElem?_eq_some_iff.1 hf).1
  simp at h1 h2
  omega
theorem QMid.few {N A M B i l c} (h : QMid N A M B i l c) (hA : OkD N A) (hB : OkD M B) : l.length ≤ A.length * B.length ∧ ∀ e ∈ l, e.x < A.length ∧ e.y < B.length := by
 have hin : ∀ e ∈ l, e.x < A.length ∧ e.y < B.length := fun e he => by
  obtain ⟨h1, h2, h3⟩ := h.word e he
  rw [← h2, ← h3]
  exact ⟨hA.go _ _ h1 hA.l, hB.go _ _ h1 hB.l⟩
 refine ⟨?_, hin⟩
 have hnd : (l.map fun e => e.x * B.length + e.y).Nodup := by
  unfold List.Nodup
  rw [List.pairwise_map, List.pairwise_iff_getElem]
  intro a b ha hb hab e
  have h1 := hin l[a] (List.getElem_mem ..)
  have h2 := hin l[b] (List.getElem_mem ..)
  have e1 : l[a].x = l[b].x := by
   have := congrArg (· / B.length) e
   (try simp only at this)
   rw [Nat.mul_comm l[a].x, Nat.mul_comm l[b].x, Nat.mul_add_div (by omega), Nat.mul_add_div (by omega), Nat.div_eq_of_lt h1.2, Nat.div_eq_of_lt h2.2] at this
   simpa using this
  have e2 : l[a].y = l[b].y := by rw [e1] at e; omega
  have := h.uniq a b _ _ (List.getElem?_eq_getElem ha) (List.getElem?_eq_getElem hb) e1 e2
  omega
 have := List.Nodup.length_le_of_subset hnd (l₂ := List.range (A.length * B.length)) (fun y hy => by
  obtain ⟨e, he, rfl⟩ := List.mem_map.1 hy
  have := hin e he
  rw [List.mem_range]
  have h2 : (e.x + 1) * B.length ≤ A.length * B.length := Nat.mul_le_mul_right _ this.1
  have h3 : (e.x + 1) * B.length = e.x * B.length + B.length := by rw [Nat.add_mul, Nat.one_mul]
  omega)
 rwa [List.length_map, List.length_range] at this
theorem W2 (w : List Nat) : w = [] ∨ ∃ v m, w = v ++ [m] := by
 rcases List.eq_nil_or_concat w with h | ⟨v, m, h⟩
 ·exact .inl h
 ·exact .inr ⟨v, m, by simpa using h⟩
theorem QMid.leads {N A M B i l c} (h : QMid N A M B i l c) (hi : 0 < i) : ∀ (n : Nat) (u : List Nat), u.length = n → (∀ z ∈ u, z < 5) → (∀ f ∈ l, C5 f.w ≤ C5 u → ∃ k, k < i ∧ l[k]? = some f) → ∃ k e, k < i ∧ l[k]? = some e ∧ e.x = goS N 0 u ∧ e.y = goS M 0 u ∧ C5 e.w ≤ C5 u
 | n, u, hn, hu, hb => by
  rcases W2 u with rfl | ⟨v, m, rfl⟩
  ·exact ⟨0, bG7, hi, h.head, rfl, rfl, Nat.le_refl _⟩
  ·match n, hn with
   | 0, hn => simp at hn
   | n + 1, hn =>
    have hm : m < 5 := hu m (by simp)
    have hc := K2 v m
    obtain ⟨k, e, h1, h2, h3, h4, h5⟩ := QMid.leads h hi n v (by simpa using hn) (fun z hz => hu z (by simp [hz])) (fun f hf hle => hb f hf (by omega))
    obtain ⟨_, h6⟩ := h.done k e h1 h2
    obtain ⟨f, hf, e1, e2, e3⟩ := h6 m hm
    obtain ⟨k', g1, g2⟩ := hb f hf (by omega)
    exact ⟨k', f, g1, g2, by rw [ac0, e1, h3], by rw [ac0, e2, h4], by omega⟩
def bZ3 (N : List Int) (A : List Bool) (M : List Int) (B : List Bool) : Option (List Nat) → Prop
 | none => Eqv N A M B 0 0
 | some w => (∀ z ∈ w, z < 5) ∧ A.getD (goS N 0 w) false ≠ B.getD (goS M 0 w) false ∧ ∀ u : List Nat, (∀ z ∈ u, z < 5) → C5 u < C5 w → A.getD (goS N 0 u) false = B.getD (goS M 0 u) false
theorem QMid.all {N A M B l c} (h : QMid N A M B l.length l c) : Eqv N A M B 0 0 := fun u hu => by
 have hp : 0 < l.length := (List.getElem?_eq_some_iff.1 h.head).1
 obtain ⟨k, e, h1, h2, h3, h4, _⟩ := h.leads hp _ u rfl hu (fun f hf _ => by
  obtain ⟨k, hk, e⟩ := List.getElem_of_mem hf
  exact ⟨k, hk, by rw [List.getElem?_eq_getElem hk, e]⟩)
 rw [← h3, ← h4]
 exact (h.done k e h1 h2).1
theorem QMid.first {N A M B i l c e} (h : QMid N A M B i l c) (he : l[i]? = some e) (hd : A.getD e.x false ≠ B.getD e.y false) : bZ3 N A M B (some e.w) := by
 obtain ⟨h1, h2, h3⟩ := h.word e (List.mem_of_getElem? he)
 refine ⟨h1, by rw [h2, h3]; exact hd, fun u hu hlt => ?_⟩
 have hi : 0 < i := by
  by_cases hc : 0 < i
  ·exact hc
  ·have : i = 0 := by omega
   subst this
   rw [h.head] at he
   injection he with he
   subst he
   exact absurd hlt (Nat.not_lt_zero _)
 obtain ⟨k, f, g1, g2, g3, g4, _⟩ := h.leads hi _ u rfl hu (fun f hf hle => by
  obtain ⟨k, hk, e2⟩ := List.getElem_of_mem hf
  have hk2 : l[k]? = some f := by rw [List.getElem?_eq_getElem hk, e2]
  refine ⟨k, ?_, hk2⟩
  by_cases hki : k < i
  ·exact hki
  ·by_cases hke : k = i
   ·subst hke
    rw [he] at hk2
    injection hk2 with hk2
    subst hk2
    omega
   ·have := h.mono i k e f he hk2 (by omega)
    omega)
 rw [← g3, ← g4]
 exact (h.done k f g1 g2).1
theorem bs1 {N A M B} (hA : OkD N A) (hB : OkD M B) : ∀ (r i : Nat) (l : List Ent) (c : Nat), QMid N A M B i l c → (∀ e, l[i]? = some e → QMid N A M B i l (5 * C5 e.w + 1)) → i ≤ l.length → A.length * B.length + 1 - i ≤ r → ∃ p, bw1 N A M B r i l = some p ∧ bZ3 N A M B p
 | 0, i, l, c, h, _, hi, hr => by
  have := (h.few hA hB).1
  omega
 | r + 1, i, l, c, h, hn, hi, hr => by
  rw [bw1]
  cases hx : l[i]? with
  | none =>
   have h1 := List.getElem?_eq_none_iff.1 hx
   have : i = l.length := by omega
   subst this
   exact ⟨none, rfl, h.all⟩
  | some e =>
   have h := hn e hx
   by_cases ha : A.getD e.x false = B.getD e.y false
   ·have hro := aO0 h hx ha 5 (Nat.le_refl _)
    have hlt := (List.getElem?_eq_some_iff.1 hro.at_).1
    obtain ⟨p, h1, h2⟩ := bs1 hA hB r (i + 1) _ _ hro.done hro.next (by omega) (by omega)
    refine ⟨p, ?_, h2⟩
    show (if A.getD e.x false = B.getD e.y false then _ else _) = _
    rw [if_pos ha]
    exact h1
   ·refine ⟨some e.w, ?_, h.first hx ha⟩
    show (if A.getD e.x false = B.getD e.y false then _ else _) = _
    rw [if_neg ha]
def bs2 (N : List Int) (A : List Bool) (M : List Int) (B : List Bool) : Option (List Nat) := (bw1 N A M B (A.length * B.length + 2) 0 [bG7]).getD none
theorem bN5 {N A M B} (hA : OkD N A) (hB : OkD M B) : bw1 N A M B (A.length * B.length + 2) 0 [bG7] = some (bs2 N A M B) ∧ bZ3 N A M B (bs2 N A M B) := by
 obtain ⟨p, h1, h2⟩ := bs1 hA hB (A.length * B.length + 2) 0 [bG7] 1 (QMid.start N A M B) (fun e he => by
  injection he with he
  subst he
  exact QMid.start N A M B) (by simp) (by omega)
 have e : bs2 N A M B = p := by rw [bs2, h1]; rfl
 rw [e]
 exact ⟨h1, h2⟩
end Go.Proofs.YtpmjpogcaglphaaDoor.A
