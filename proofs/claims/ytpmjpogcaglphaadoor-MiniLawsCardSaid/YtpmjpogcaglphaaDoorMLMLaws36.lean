/- What is built of an expression takes just its language. -/
import Derived.Test.YtpmjpogcaglphaaDoorMLMLaws35
set_option linter.unusedVariables false
set_option linter.unusedSimpArgs false
set_option linter.unnecessarySimpa false
namespace Go.Proofs.YtpmjpogcaglphaaDoor.A
open Go
set_option maxRecDepth 20000
theorem Frags.repComp {w ps Ms F S lo hi} (h : Frags w ps Ms F S lo hi) (M : Nat → Nat → Prop) (hM : ∀ M' ∈ Ms, M' = M) (b e : Int) : ∀ (t c i j : Nat), 1 ≤ c → c ≤ ps.length → (b ≤ (t + c : Nat) ∨ c = ps.length) → Iter M c i j → Rea w (F ++ r9 b e t ps) S (ps.headD (0, 0)).1 i e j := by
 induction h with
 | nil lo => intro t c i j h1 h2; simp at h2; omega
 | cons h1 h2 ih =>
  rename_i p M0 F S lo mid hi ps Ms F' S'
  obtain rfl : M0 = M := hM M0 List.mem_cons_self
  intro t c i j c1 c2 c3 hit
  obtain ⟨c', rfl⟩ : ∃ c', c = c' + 1 := ⟨c - 1, by omega⟩
  obtain ⟨k, m1, m2⟩ := hit
  have hmono : ∀ x, x ∈ F → x ∈ F ++ F' ++ r9 b e t (p :: ps) := fun x hx => by simp [hx]
  have hp := (h1.comp i k m1).mono hmono (fun x hx => show x ∈ S ++ S' by simp [hx])
  rw [List.headD_cons]
  cases c' with
  | zero =>
   obtain rfl : k = j := m2
   refine hp.trans (Rea.one (List.mem_append_right _ ?_))
   cases ps with
   | nil => simp [r9]
   | cons q qs =>
    have : b ≤ (t + 1 : Nat) := by
     rcases c3 with c3 | c3
     ·exact c3
     ·simp at c3
    simp only [r9, List.mem_append]
    left
    rw [if_pos (by omega)]
    simp
  | succ c' =>
   cases h2 with
   | nil lo => simp at c2
   | cons h3 h4 =>
    rename_i q M2 F2 S2 mid2 qs Ms2 F3 S3
    have hr := ih (fun M' h' => hM M' (List.mem_cons_of_mem _ h')) (t + 1) (c' + 1) k j (by omega) (by rw [List.length_cons] at c2; omega) (by
     rcases c3 with c3 | c3
     ·left
      have : t + 1 + (c' + 1) = t + (c' + 1 + 1) := by omega
      rw [this]; exact c3
     ·right; rw [List.length_cons] at c3; omega) m2
    have hl : (p.2, q.1) ∈ F ++ (F2 ++ F3) ++ r9 b e t (p :: q :: qs) := List.mem_append_right _ (by simp [r9])
    refine (hp.trans (Rea.one hl)).trans (hr.mono (fun x hx => ?_) (fun x hx => by simp at hx ⊢; exact .inr hx))
    rcases List.mem_append.1 hx with hx | hx
    ·exact List.mem_append_left _ (List.mem_append_right _ hx)
    ·exact List.mem_append_right _ (by simp only [r9, List.mem_append, List.mem_cons]; exact .inr (.inr hx))
theorem bv4 (n : Int) (ps : List (Int × Int)) (x : Int × Int) : x ∈ Y6 n ps ↔ ps ≠ [] ∧ x = (n, (ps.headD (0, 0)).1) := by
 cases ps with
 | nil => simp [Y6]
 | cons p ps => simp [Y6]
theorem Frags.repeat {w ps Ms F S n e} (h : Frags w ps Ms F S (n + 1) e) (M : Nat → Nat → Prop) (hM : ∀ M' ∈ Ms, M' = M) (b : Int) (hb0 : 0 ≤ b) (hb1 : b ≤ ps.length) :
  Frag w (F ++ (Y6 n ps ++ r9 b e 0 ps ++ (if b = 0 then [((n : Int), (e : Int))] else []))) S n (e + 1) (n, e) (fun i j => ∃ m : Nat, b ≤ m ∧ m ≤ ps.length ∧ Iter M m i j) := by
 have hbd := h.bounds
 have hmem : ∀ x, x ∈ F ++ (Y6 n ps ++ r9 b e 0 ps ++ (if b = 0 then [((n : Int), (e : Int))] else [])) ↔ x ∈ F ∨ (ps ≠ [] ∧ x = ((n : Int), (ps.headD (0, 0)).1)) ∨ x ∈ r9 b e 0 ps ∨ (b = 0 ∧ x = ((n : Int), (e : Int))) := by
  intro x
  rw [List.mem_append, List.mem_append, List.mem_append, bv4, or_assoc]
  split
  ·rename_i hb; simp [hb]
  ·rename_i hb; simp [hb]
 have hhead : ps ≠ [] → ((n + 1 : Nat) : Int) ≤ (ps.headD (0, 0)).1 ∧ (ps.headD (0, 0)).1 < e := fun hne => by
  cases ps with
  | nil => exact absurd rfl hne
  | cons p ps => exact (hbd.2.1 p List.mem_cons_self).1
 generalize F ++ (Y6 n ps ++ r9 b e 0 ps ++ (if b = 0 then [((n : Int), (e : Int))] else [])) = L at *
 have hsem : ∃ Sem : Int → Nat → Nat → Prop, (ps ≠ [] → ∀ i, Sem (ps.headD (0, 0)).1 i i) ∧ aJ5 w (F ++ r9 b e 0 ps) S Sem ∧ ∀ i j, Sem e i j → ∃ c, 1 ≤ c ∧ c ≤ ps.length ∧ (b ≤ (0 + c : Nat) ∨ c = ps.length) ∧ Iter M c i j := by
  by_cases hne : ps = []
  ·refine ⟨fun _ _ _ => False, fun h' => absurd hne h', ⟨fun x hx i j h' => h'.elim, fun x hx i j _ _ h' => h'.elim⟩, fun i j h' => h'.elim⟩
  ·obtain ⟨Sem, s1, s2, s3⟩ := h.repSem M hM hne b e (by omega) 0
   exact ⟨Sem, fun _ => s1, s2, s3⟩
 obtain ⟨Sem, s1, s2, s3⟩ := hsem
 refine ⟨⟨Int.le_refl _, by show (n : Int) < ((e + 1 : Nat) : Int); omega⟩, ⟨by show (n : Int) ≤ (e : Int); omega, by show (e : Int) < ((e + 1 : Nat) : Int); omega⟩, ?_, fun x hx => by have := hbd.2.2.2.1 x hx; omega, ?_, ?_⟩
 ·intro x hx
  rcases (hmem x).1 hx with hx | ⟨hne, rfl⟩ | hx | ⟨_, rfl⟩
  ·have := hbd.2.2.1 x hx; omega
  ·have := hhead hne
   dsimp only; omega
  ·obtain ⟨⟨r, r1, r2⟩, r3⟩ := ad0 b e 0 ps x hx
   have := hbd.2.1 r r1
   rcases r3 with r3 | ⟨r', r4, r5⟩
   ·omega
   ·have := hbd.2.1 r' r4
    omega
  ·dsimp only; omega
 ·rintro i j ⟨m, m1, m2, m3⟩
  cases m with
  | zero =>
   obtain rfl : i = j := m3
   exact Rea.one ((hmem _).2 (.inr (.inr (.inr ⟨by omega, rfl⟩))))
  | succ m =>
   have hne : ps ≠ [] := fun e' => by rw [e'] at m2; simp at m2
   refine (Rea.one ((hmem _).2 (.inr (.inl ⟨hne, rfl⟩)))).trans ((h.repComp M hM b e 0 (m + 1) i j (by omega) m2 (.inl (by omega)) m3).mono (fun x hx => (hmem x).2 ?_) (fun x hx => hx))
   rcases List.mem_append.1 hx with hx | hx
   ·exact .inl hx
   ·exact .inr (.inr (.inl hx))
 ·refine ⟨fun x i j => if x = (n : Int) then i = j else if x = (e : Int) then ((b = 0 ∧ i = j) ∨ Sem e i j) else Sem x i j, fun i => by dsimp only; rw [if_pos rfl], ⟨?_, ?_⟩, ?_⟩
  ·intro x hx i j hs
   (try dsimp only at hs ⊢)
   rcases (hmem x).1 hx with hx | ⟨hne, rfl⟩ | hx | ⟨hb, rfl⟩
   ·have := hbd.2.2.1 x hx
    rw [if_neg (by omega), if_neg (by omega)] at hs ⊢
    exact s2.1 x (List.mem_append_left _ hx) i j hs
   ·have := hhead hne
    (try dsimp only at hs ⊢)
    rw [if_pos rfl] at hs
    subst hs
    rw [if_neg (by omega), if_neg (by omega)]
    exact s1 hne i
   ·obtain ⟨⟨r, r1, r2⟩, r3⟩ := ad0 b e 0 ps x hx
    have := hbd.2.1 r r1
    rw [if_neg (by omega), if_neg (by omega)] at hs
    have g := s2.1 x (List.mem_append_right _ hx) i j hs
    rcases r3 with r3 | ⟨r', r4, r5⟩
    ·rw [if_neg (by omega), if_pos r3]
     rw [r3] at g
     exact .inr g
    ·have := hbd.2.1 r' r4
     rw [if_neg (by omega), if_neg (by omega)]
     exact g
   ·(try dsimp only at hs ⊢)
    rw [if_pos rfl] at hs
    rw [if_neg (by omega), if_pos rfl]
    exact .inl ⟨hb, hs⟩
  ·intro x hx i j hl hok hs
   (try dsimp only at hs ⊢)
   have := hbd.2.2.2.1 x hx
   rw [if_neg (by omega), if_neg (by omega)] at hs ⊢
   exact s2.2 x hx i j hl hok hs
  ·intro i j hs
   (try dsimp only at hs)
   rw [if_neg (by omega), if_pos rfl] at hs
   rcases hs with ⟨g1, g2⟩ | g
   ·exact ⟨0, by omega, by omega, g2⟩
   ·obtain ⟨c, c1, c2, c3, c4⟩ := s3 i j g
    refine ⟨c, ?_, c2, c4⟩
    rcases c3 with c3 | c3
    ·rw [Nat.zero_add] at c3; exact c3
    ·rw [c3]; exact hb1
def Built (w : List Int) (f : BF) (M : Nat → Nat → Prop) : Prop := ∀ b : BS, b.n ≤ (f b).2.n ∧ ((f b).2.n ≤ 1000 → ∃ F S, (f b).2.f = b.f ++ F ∧ (f b).2.s = b.s ++ S ∧ Frag w F S b.n (f b).2.n (f b).1 M)
inductive Builts (w : List Int) : List BF → List (Nat → Nat → Prop) → Prop
 | nil : Builts w [] []
 | cons {f M fs Ms} : Built w f M → Builts w fs Ms → Builts w (f :: fs) (M :: Ms)
theorem U9 {w fs Ms} (h : Builts w fs Ms) : ∀ (b : BS) (out : List (Int × Int)), b.n ≤ (d8 fs b out).2.n ∧ ((d8 fs b out).2.n ≤ 1000 → ∃ ps F S, (d8 fs b out).1 = out ++ ps ∧ (d8 fs b out).2.f = b.f ++ F ∧ (d8 fs b out).2.s = b.s ++ S ∧ Frags w ps Ms F S b.n (d8 fs b out).2.n ∧ ps.length = fs.length) := by
 induction h with
 | nil =>
  intro b out
  rw [d8]
  exact ⟨Nat.le_refl _, fun _ => ⟨[], [], [], by simp, by simp, by simp, .nil _, rfl⟩⟩
 | cons h1 h1' ih =>
  rename_i f M fs Ms
  intro b out
  rw [d8]
  split
  ·exact ⟨Nat.le_refl _, fun h => absurd h (by dsimp only; omega)⟩
  ·obtain ⟨n1, g1⟩ := h1 b
   obtain ⟨n2, g2⟩ := ih (f b).2 (out ++ [(f b).1])
   refine ⟨by omega, fun hle => ?_⟩
   obtain ⟨F, S, e1, e2, e3⟩ := g1 (by omega)
   obtain ⟨ps, F', S', e4, e5, e6, e7, e8⟩ := g2 hle
   exact ⟨(f b).1 :: ps, F ++ F', S ++ S', by rw [e4]; simp, by rw [e5, e1]; simp, by rw [e6, e2]; simp, .cons e3 e7, by simp [e8]⟩
theorem aQ1 {w fs Ms} (h : Builts w fs Ms) (hne : fs ≠ []) : Built w (ab8 fs) (bI9 Ms) := by
 intro b
 obtain ⟨n1, g1⟩ := U9 h b []
 unfold ab8
 dsimp only
 split
 ·rename_i hc
  refine ⟨n1, fun hle => ?_⟩
  obtain ⟨ps, F, S, e1, _, _, _, e5⟩ := g1 hle
  rcases hc with hc | hc
  ·dsimp only at hle; omega
  ·rw [e1] at hc
   simp at hc
   rw [hc] at e5
   exact absurd (List.length_eq_zero_iff.1 e5.symm) hne
 ·rename_i hc
  refine ⟨n1, fun hle => ?_⟩
  obtain ⟨ps, F, S, e1, e2, e3, e4, e5⟩ := g1 hle
  have hps : ps ≠ [] := fun e => by
   rw [e] at e5
   exact hne (List.length_eq_zero_iff.1 e5.symm)
  rw [List.nil_append] at e1
  exact ⟨F ++ M8 ps, S, by rw [e1]; show (d8 fs b []).2.f ++ _ = _; rw [e2]; simp, e3, by rw [e1]; exact e4.join hps⟩
theorem aJ6 {w fs Ms} (h : Builts w fs Ms) : Built w (T8 fs) (fun i j => ∃ M ∈ Ms, M i j) := by
 intro b
 obtain ⟨n1, g1⟩ := U9 h b.state []
 have hs : b.state.n = b.n + 1 := rfl
 refine ⟨by show b.n ≤ (d8 fs b.state []).2.n + 1; omega, fun hle => ?_⟩
 have hle : (d8 fs b.state []).2.n + 1 ≤ 1000 := hle
 obtain ⟨ps, F, S, e1, e2, e3, e4, e5⟩ := g1 (by omega)
 rw [List.nil_append] at e1
 refine ⟨F ++ P5 b.n (d8 fs b.state []).2.n ps, S, ?_, e3, ?_⟩
 ·show (d8 fs b.state []).2.f ++ _ = _
  rw [e2, e1, List.append_assoc]
  rfl
 ·exact e4.union
theorem Z3 {w f M} (h : Built w f M) (around back : Bool) : Built w (T7 f around back) (bf3 around back M) := by
 intro b
 obtain ⟨n1, g1⟩ := h b.state
 have hs : b.state.n = b.n + 1 := rfl
 refine ⟨by show b.n ≤ (f b.state).2.n + 1; omega, fun hle => ?_⟩
 have hle : (f b.state).2.n + 1 ≤ 1000 := hle
 obtain ⟨F, S, e1, e2, e3⟩ := g1 (by omega)
 have := e3.once around back
 exact ⟨_, S, by show (f b.state).2.f ++ _ = _; rw [e1, List.append_assoc]; rfl, e2, this⟩
theorem ax1 {w f M} (h : Built w f M) : ∀ n, Builts w (List.replicate n f) (List.replicate n M)
 | 0 => .nil
 | n + 1 => .cons h (ax1 h n)
theorem aC0 {w f M} (h : Built w f M) (b0 : Int) (hi : Nat) (h0 : 0 ≤ b0) (h1 : b0 ≤ hi) : Built w (z6 b0 hi f) (fun i j => ∃ m : Nat, b0 ≤ m ∧ m ≤ hi ∧ Iter M m i j) := by
 intro b
 obtain ⟨n1, g1⟩ := U9 (ax1 h hi) b.state []
 have hs : b.state.n = b.n + 1 := rfl
 have hst : (d8 (List.replicate hi f) b.state []).2.state.n = (d8 (List.replicate hi f) b.state []).2.n + 1 := rfl
 unfold z6
 dsimp only
 split
 ·rename_i hc
  exact ⟨by dsimp only; omega, fun hle => absurd hle (by dsimp only; omega)⟩
 ·rename_i hc
  refine ⟨by show b.n ≤ (d8 (List.replicate hi f) b.state []).2.n + 1; omega, fun hle => ?_⟩
  obtain ⟨ps, F, S, e1, e2, e3, e4, e5⟩ := g1 (by omega)
  rw [List.nil_append] at e1
  rw [List.length_replicate] at e5
  have := e4.repeat M (fun M' h' => (List.mem_replicate.1 h').2) b0 h0 (by omega)
  refine ⟨F ++ (Y6 b.n ps ++ r9 b0 (d8 (List.replicate hi f) b.state []).2.n 0 ps ++ (if b0 = 0 then [((b.n : Int), ((d8 (List.replicate hi f) b.state []).2.n : Int))] else [])), S, ?_, e3, ?_⟩
  ·show (d8 (List.replicate hi f) b.state []).2.f ++ _ = _
   rw [e2, e1, List.append_assoc]
   rfl
  ·rw [e5] at this
   exact this
theorem Z4 (w : List Int) (k s : Int) : Built w (az7 k s) (fun i j => if k = 1 then j = i + 1 ∧ i < w.length ∧ ar2 s (w.getD i 0) = true else if k = 3 then i = j else False) := by
 intro b
 unfold az7
 have hb : b.state.state.n = b.n + 2 := rfl
 by_cases h1 : k = 1
 ·subst h1
  refine ⟨by show b.n ≤ b.n + 2; omega, fun _ => ⟨[], [((b.n : Int), (b.n : Int) + 1, s)], by show b.f = b.f ++ []; simp, rfl, ?_⟩⟩
  refine ⟨?_, ?_, by simp, ?_, ?_, fun x i j => (x = (b.n : Int) ∧ i = j) ∨ (x = (b.n : Int) + 1 ∧ (j = i + 1 ∧ i < w.length ∧ ar2 s (w.getD i 0) = true)), fun i => .inl ⟨rfl, rfl⟩, ⟨by simp, ?_⟩, ?_⟩
  ·show (b.n : Int) ≤ (b.n : Int) ∧ (b.n : Int) < ((b.n + 2 : Nat) : Int); omega
  ·show (b.n : Int) ≤ (b.n : Int) + 1 ∧ (b.n : Int) + 1 < ((b.n + 2 : Nat) : Int); omega
  ·intro x hx
   rw [List.mem_singleton.1 hx]
   show ((b.n : Int) ≤ (b.n : Int) ∧ (b.n : Int) < ((b.n + 2 : Nat) : Int)) ∧ (b.n : Int) ≤ (b.n : Int) + 1 ∧ (b.n : Int) + 1 < ((b.n + 2 : Nat) : Int)
   omega
  ·intro i j hm
   rw [if_pos rfl] at hm
   obtain ⟨rfl, m2, m3⟩ := hm
   exact .step (x := ((b.n : Int), (b.n : Int) + 1, s)) .refl (by simp) m2 m3
  ·intro x hx i j hl hok hs
   obtain rfl := List.mem_singleton.1 hx
   (try dsimp only at hs hok ⊢)
   rcases hs with ⟨_, rfl⟩ | ⟨g, _⟩
   ·exact .inr ⟨rfl, rfl, hl, hok⟩
   ·omega
  ·intro i j hs
   rw [if_pos rfl]
   rcases hs with ⟨g, _⟩ | ⟨_, g⟩
   ·have g : (b.n : Int) + 1 = b.n := g
    omega
   ·exact g
 ·by_cases h3 : k = 3
  ·subst h3
   refine ⟨by show b.n ≤ b.n + 2; omega, fun _ => ⟨[((b.n : Int), (b.n : Int) + 1)], [], rfl, by show b.s = b.s ++ []; simp, ?_⟩⟩
   refine ⟨?_, ?_, ?_, by simp, ?_, fun x i j => i = j, fun i => rfl, ⟨fun x hx i j h => h, by simp⟩, ?_⟩
   ·show (b.n : Int) ≤ (b.n : Int) ∧ (b.n : Int) < ((b.n + 2 : Nat) : Int); omega
   ·show (b.n : Int) ≤ (b.n : Int) + 1 ∧ (b.n : Int) + 1 < ((b.n + 2 : Nat) : Int); omega
   ·intro x hx
    rw [List.mem_singleton.1 hx]
    show ((b.n : Int) ≤ (b.n : Int) ∧ (b.n : Int) < ((b.n + 2 : Nat) : Int)) ∧ (b.n : Int) ≤ (b.n : Int) + 1 ∧ (b.n : Int) + 1 < ((b.n + 2 : Nat) : Int)
    omega
   ·intro i j hm
    rw [if_neg (by decide), if_pos rfl] at hm
    subst hm
    exact Rea.one (by simp)
   ·intro i j hs
    rw [if_neg (by decide), if_pos rfl]
    exact hs
  ·refine ⟨by rw [if_neg h1, if_neg h3]; show b.n ≤ b.n + 2; omega, fun _ => ⟨[], [], by rw [if_neg h1, if_neg h3]; show b.f = _; simp, by rw [if_neg h1, if_neg h3]; show b.s = _; simp, ?_⟩⟩
   rw [if_neg h1, if_neg h3]
   refine ⟨?_, ?_, by simp, by simp, ?_, fun x i j => x = (b.n : Int) ∧ i = j, fun i => ⟨rfl, rfl⟩, ⟨by simp, by simp⟩, ?_⟩
   ·show (b.n : Int) ≤ (b.n : Int) ∧ (b.n : Int) < ((b.n + 2 : Nat) : Int); omega
   ·show (b.n : Int) ≤ (b.n : Int) + 1 ∧ (b.n : Int) + 1 < ((b.n + 2 : Nat) : Int); omega
   ·intro i j hm
    rw [if_neg h1, if_neg h3] at hm
    exact hm.elim
   ·rintro i j ⟨g, _⟩
    have g : (b.n : Int) + 1 = b.n := g
    omega
theorem Built.congr {w f M M'} (h : Built w f M) (hM : ∀ i j, M' i j ↔ M i j) : Built w f M' := fun b => ⟨(h b).1, fun hle => by
 obtain ⟨F, S, e1, e2, e3⟩ := (h b).2 hle
 exact ⟨F, S, e1, e2, e3.congr (fun _ => Iff.rfl) (fun _ => Iff.rfl) hM⟩⟩
theorem aX8 (w : List Int) : ∀ (l : List Nd) (i j : Nat), MtJ w l i j ↔ bI9 (l.map (Mt w)) i j
 | [], i, j => by rw [MtJ]; exact Iff.rfl
 | x :: l, i, j => by
  rw [MtJ]
  exact exists_congr fun k => and_congr Iff.rfl (aX8 w l k j)
theorem aX9 (w : List Int) : ∀ (l : List Nd) (i j : Nat), MtU w l i j ↔ ∃ M ∈ l.map (Mt w), M i j
 | [], i, j => by rw [MtU]; simp
 | x :: l, i, j => by
  rw [aB7, aX9 w l]
  simp
theorem ax2 (w : List Int) : ∀ (x : Nd), B0 x = true → Built w (d7 x) (Mt w x)
 | .mk k s lo hi l, hr => by
  obtain ⟨hx, hc⟩ := y5 hr
  have hkid : ∀ x ∈ l, Built w (d7 x) (Mt w x) := fun x hm => by
   have : SizeOf.sizeOf x < SizeOf.sizeOf (Nd.mk k s lo hi l) := by
    have := List.sizeOf_lt_of_mem hm
    simp only [Nd.mk.sizeOf_spec]
    omega
   exact ax2 w x (hx x hm)
  have hall : ∀ l' : List Nd, (∀ x ∈ l', Built w (d7 x) (Mt w x)) → Builts w (l6 l') (l'.map (Mt w)) := by
   intro l'
   induction l' with
   | nil => intro _; rw [l6]; exact .nil
   | cons x l' ih =>
    intro h
    rw [l6]
    exact .cons (h x (by simp)) (ih (fun y hy => h y (List.mem_cons_of_mem _ hy)))
  rw [d7]
  unfold az8
  rcases hc with ⟨rfl, rfl, rfl, rfl, h0, h1⟩ | ⟨hk, rfl, rfl, rfl, rfl⟩ | ⟨hk, rfl, rfl, rfl, y1, y2, r, rfl⟩ | ⟨hk, rfl, rfl, rfl, x, rfl⟩ | ⟨rfl, rfl, h0, h1, h2, x, rfl⟩
  ·refine (Z4 w 1 s).congr (fun i j => ?_)
   rw [U8, if_pos rfl, if_pos rfl]
  ·rcases hk with rfl | rfl
   ·refine (Z4 w 2 0).congr (fun i j => ?_)
    rw [U8]
    simp
   ·refine (Z4 w 3 0).congr (fun i j => ?_)
    rw [U8]
    simp
  ·rcases hk with rfl | rfl
   ·rw [if_pos rfl]
    refine (aQ1 (hall _ hkid) (by rw [l6]; simp)).congr (fun i j => ?_)
    rw [U8, if_neg (by decide), if_neg (by decide), if_pos rfl]
    exact aX8 w _ i j
   ·rw [if_neg (by decide), if_pos rfl]
    refine (aJ6 (hall _ hkid)).congr (fun i j => ?_)
    rw [U8, if_neg (by decide), if_neg (by decide), if_neg (by decide), if_pos rfl]
    exact aX9 w _ i j
  ·have hb := hkid x (by simp)
   have hh : (l6 [x]).headD (fun b => ((0, 0), b)) = d7 x := by rw [l6]; rfl
   have hm : MtH w [x] = Mt w x := by rw [MtH]
   rcases hk with rfl | rfl | rfl
   ·rw [if_neg (by decide), if_neg (by decide), if_pos rfl, hh]
    refine (Z3 hb true true).congr (fun i j => ?_)
    rw [U8, if_neg (by decide), if_neg (by decide), if_neg (by decide), if_neg (by decide), if_pos rfl, hm]
    simp [bf3]
   ·rw [if_neg (by decide), if_neg (by decide), if_neg (by decide), if_pos rfl, hh]
    refine (Z3 hb false true).congr (fun i j => ?_)
    rw [U8, if_neg (by decide), if_neg (by decide), if_neg (by decide), if_neg (by decide), if_neg (by decide), if_pos rfl, hm]
    simp [bf3]
   ·rw [if_neg (by decide), if_neg (by decide), if_neg (by decide), if_neg (by decide), if_pos rfl, hh]
    refine (Z3 hb true false).congr (fun i j => ?_)
    rw [U8, if_neg (by decide), if_neg (by decide), if_neg (by decide), if_neg (by decide), if_neg (by decide), if_neg (by decide), if_pos rfl, hm]
    simp [bf3]
  ·have hb := hkid x (by simp)
   have hh : (l6 [x]).headD (fun b => ((0, 0), b)) = d7 x := by rw [l6]; rfl
   have hm : MtH w [x] = Mt w x := by rw [MtH]
   rw [if_neg (by decide), if_neg (by decide), if_neg (by decide), if_neg (by decide), if_neg (by decide), if_pos rfl, hh]
   refine (aC0 hb lo hi.toNat h0 (by omega)).congr (fun i j => ?_)
   rw [U8, if_neg (by decide), if_neg (by decide), if_neg (by decide), if_neg (by decide), if_neg (by decide), if_neg (by decide), if_neg (by decide), if_pos rfl, hm]
   exact exists_congr fun m => and_congr Iff.rfl (and_congr (by omega) Iff.rfl)
termination_by x => SizeOf.sizeOf x
decreasing_by
 exact this
theorem Z5 {N : Nat} {fs : List (Int × Int)} (hin : ∀ p ∈ fs, 0 ≤ p.1 ∧ p.1 < (N : Int)) {j : Nat} (hj : j < N) (x : Int) : x ∈ (t7 N fs).getD j [] ↔ ((j : Int), x) ∈ fs := by
 have key : ∀ (l : List (Int × Int)) (rows : List (List Int)), rows.length = N → (∀ p ∈ l, 0 ≤ p.1 ∧ p.1 < (N : Int)) → (x ∈ (l.foldl N2 rows).getD j [] ↔ x ∈ rows.getD j [] ∨ ((j : Int), x) ∈ l) := fun l => by
  induction l with
  | nil => intro rows _ _; simp
  | cons p l ih =>
   intro rows hl hp
   have hp0 := hp p (List.mem_cons_self ..)
   rw [List.foldl_cons, ih _ (by simpa [N2] using hl) (fun q hq => hp q (List.mem_cons_of_mem _ hq)), N2, B7 _ _ _ _ _ (by omega), List.mem_cons]
   obtain ⟨f, t⟩ := p
   simp only at hp0 ⊢
   by_cases e : f.toNat = j
   ·have : f = (j : Int) := by omega
    subst this
    rw [if_pos e, Int.toNat_natCast, List.mem_append, List.mem_singleton]
    simp only [Prod.mk.injEq, true_and]
    exact or_assoc
   ·rw [if_neg e]
    have : ¬ ((j : Int), x) = (f, t) := fun h => by injection h with h _; omega
    simp [this]
 have h0 : (List.replicate N ([] : List Int)).getD j [] = [] := by simp [List.getD, List.getElem?_replicate, hj]
 have := key fs (List.replicate N []) (by simp) hin
 rw [h0] at this
 simpa [t7] using this
theorem bZ4 {N : Nat} {S F : Int} {ss : List (Int × Int × Int)} {fs : List (Int × Int)} (hw : Wf N S F ss fs) (w : List Int) : ∀ (j : Nat), j ≤ w.length → ∀ q : Nat, q < N → ((bg1 N S ss fs (w.take j)).getD q false = true ↔ Rea w fs ss S 0 q j) := by
 have hin : ∀ p ∈ fs, 0 ≤ p.1 ∧ p.1 < (N : Int) := fun p hp => (hw.free p hp).1
 have clo : ∀ (l : List Int) (j q : Nat), q < N → (∀ x ∈ l, 0 ≤ x ∧ x < (N : Int) → Rea w fs ss S 0 x j) → Rch N (t7 N fs) l q → Rea w fs ss S 0 q j := by
  intro l j q _ hl hr
  induction hr with
  | base s h hs => exact hl s h ⟨by omega, by omega⟩
  | step s t h hm ht ih =>
   have := (Z5 hin h.lt (t : Int)).1 hm
   exact .free (x := ((s : Int), (t : Int))) (ih h.lt) this
 intro j
 have key : ∀ (q : Int) (i : Nat), Rea w fs ss S 0 q i → ∀ b : List Bool, i = j → (∀ q : Nat, q < N → (b.getD q false = true ↔ Rch N (t7 N fs) (if j = 0 then [S] else ah7 ss (bg1 N S ss fs (w.take (j - 1))) (w.getD (j - 1) 0)) q)) → True := fun _ _ _ _ _ _ => trivial
 clear key
 induction j with
 | zero =>
  intro _ q hq
  have e0 : bg1 N S ss fs (w.take 0) = B8 N (t7 N fs) [S] := rfl
  rw [e0, W1]
  constructor
  ·refine clo [S] 0 q hq (fun x hx _ => ?_)
   rw [List.mem_singleton.1 hx]
   exact .refl
  ·intro h
   have : ∀ (x : Int) (i : Nat), Rea w fs ss S 0 x i → i = 0 → ∃ y : Nat, x = y ∧ Rch N (t7 N fs) [S] y := by
    intro x i hr
    induction hr with
    | refl =>
     intro _
     exact ⟨S.toNat, by have := hw.s; omega, .base _ (by rw [List.mem_singleton]; have := hw.s; omega) (by have := hw.s; omega)⟩
    | free h1 hm ih =>
     rename_i x _
     intro e
     obtain ⟨y, e1, e2⟩ := ih e
     have := hw.free x hm
     refine ⟨x.2.toNat, by omega, .step y _ e2 ?_ (by omega)⟩
     rw [Z5 hin e2.lt, ← e1, Int.toNat_of_nonneg (by omega)]
     exact hm
    | step h1 hm hl hs ih => intro e; omega
   obtain ⟨y, e1, e2⟩ := this _ _ h rfl
   have : q = y := by omega
   rw [this]
   exact e2
 | succ j ih =>
  intro hj q hq
  have ih := ih (by omega)
  have e0 : bg1 N S ss fs (w.take (j + 1)) = B8 N (t7 N fs) (ah7 ss (bg1 N S ss fs (w.take j)) (w.getD j 0)) := by
   have : w.take (j + 1) = w.take j ++ [w.getD j 0] := by
    rw [List.take_succ_eq_append_getElem (by omega), List.getD_eq_getElem?_getD, List.getElem?_eq_getElem (by omega)]
    rfl
   rw [this, bk9]
   rfl
  rw [e0, W1]
  have hnx : ∀ x : Int, x ∈ ah7 ss (bg1 N S ss fs (w.take j)) (w.getD j 0) ↔ ∃ s ∈ ss, s.2.1 = x ∧ ar2 s.2.2 (w.getD j 0) = true ∧ Rea w fs ss S 0 s.1 j := by
   intro x
   unfold ah7
   rw [List.mem_map]
   constructor
   ·rintro ⟨s, hs, rfl⟩
    obtain ⟨h1, h2⟩ := List.mem_filter.1 hs
    rw [leads, Bool.and_eq_true] at h2
    have := hw.steps s h1
    have h3 := (ih s.1.toNat (by omega)).1 h2.1
    rw [Int.toNat_of_nonneg (by omega)] at h3
    exact ⟨s, h1, rfl, h2.2, h3⟩
   ·rintro ⟨s, h1, rfl, h2, h3⟩
    refine ⟨s, List.mem_filter.2 ⟨h1, ?_⟩, rfl⟩
    have := hw.steps s h1
    rw [leads, Bool.and_eq_true]
    refine ⟨(ih s.1.toNat (by omega)).2 ?_, h2⟩
    rw [Int.toNat_of_nonneg (by omega)]
    exact h3
  constructor
  ·refine clo _ (j + 1) q hq (fun x hx _ => ?_)
   obtain ⟨s, h1, rfl, h2, h3⟩ := (hnx x).1 hx
   exact .step h3 h1 (by omega) h2
  ·intro h
   have : ∀ (x : Int) (i : Nat), Rea w fs ss S 0 x i → i = j + 1 → ∃ y : Nat, x = y ∧ Rch N (t7 N fs) (ah7 ss (bg1 N S ss fs (w.take j)) (w.getD j 0)) y := by
    intro x i hr
    induction hr with
    | refl => intro e; omega
    | free h1 hm ih' =>
     rename_i x _
     intro e
     obtain ⟨y, e1, e2⟩ := ih' e
     have := hw.free x hm
     refine ⟨x.2.toNat, by omega, .step y _ e2 ?_ (by omega)⟩
     rw [Z5 hin e2.lt, ← e1, Int.toNat_of_nonneg (by omega)]
     exact hm
    | step h1 hm hl hs ih' =>
     rename_i x i'
     intro e
     have e' : i' = j := by omega
     subst e'
     have := hw.steps x hm
     refine ⟨x.2.1.toNat, by omega, .base _ ?_ (by omega)⟩
     rw [Int.toNat_of_nonneg (by omega)]
     exact (hnx _).2 ⟨x, hm, rfl, hs, h1⟩
   obtain ⟨y, e1, e2⟩ := this _ _ h rfl
   have : q = y := by omega
   rw [this]
   exact e2
theorem cv1 {x : Nd} (hr : B0 x = true) (hn : (d7 x ⟨0, [], []⟩).2.n ≤ 1000) (hw : Wf (d7 x ⟨0, [], []⟩).2.n (d7 x ⟨0, [], []⟩).1.1 (d7 x ⟨0, [], []⟩).1.2 (d7 x ⟨0, [], []⟩).2.s (d7 x ⟨0, [], []⟩).2.f) (w : List Int) :
  cn7 (d7 x ⟨0, [], []⟩).2.n (d7 x ⟨0, [], []⟩).1.1 (d7 x ⟨0, [], []⟩).1.2 (d7 x ⟨0, [], []⟩).2.s (d7 x ⟨0, [], []⟩).2.f w = true ↔ Mt w x 0 w.length := by
 obtain ⟨F, S, e1, e2, e3⟩ := (ax2 w x hr ⟨0, [], []⟩).2 hn
 have e1 : (d7 x ⟨0, [], []⟩).2.f = F := e1
 have e2 : (d7 x ⟨0, [], []⟩).2.s = S := e2
 have hq := bZ4 hw w w.length (Nat.le_refl _) (d7 x ⟨0, [], []⟩).1.2.toNat (by have := hw.f; omega)
 rw [List.take_length, Int.toNat_of_nonneg hw.f.1] at hq
 unfold cn7
 rw [hq, e1, e2]
 obtain ⟨_, _, _, _, c, Sem, s1, s2, s3⟩ := e3
 exact ⟨fun h => s3 0 _ (h.sem s2 (s1 0)), c 0 _⟩
end Go.Proofs.YtpmjpogcaglphaaDoor.A
