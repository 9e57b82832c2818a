/- The language of an expression; pieces of a machine that take just a language. -/
import Derived.Test.YtpmjpogcaglphaaDoorMLMLaws9
set_option linter.unusedVariables false
set_option linter.unusedSimpArgs false
set_option linter.unnecessarySimpa false
namespace Go.Proofs.YtpmjpogcaglphaaDoor.A
open Go
set_option maxRecDepth 20000
def ar2 (v m : Int) : Bool := decide (0 ≤ m) && decide (m < 5) && Q8 v m
def Iter (R : Nat → Nat → Prop) : Nat → Nat → Nat → Prop
 | 0, i, j => i = j
 | m + 1, i, j => ∃ k, R i k ∧ Iter R m k j
theorem Iter.snoc {R : Nat → Nat → Prop} : ∀ {m i k j}, Iter R m i k → R k j → Iter R (m + 1) i j
 | 0, i, k, j, h, h1 => by
  have h : i = k := h
  subst h
  exact ⟨j, h1, rfl⟩
 | m + 1, i, k, j, ⟨x, h2, h3⟩, h1 => ⟨x, h2, Iter.snoc h3 h1⟩
mutual
def Mt (w : List Int) : Nd → Nat → Nat → Prop
 | .mk k s lo hi l => fun i j =>
  if k = 1 then j = i + 1 ∧ i < w.length ∧ ar2 s (w.getD i 0) = true
  else if k = 3 then i = j
  else if k = 4 then MtJ w l i j
  else if k = 5 then MtU w l i j
  else if k = 6 then ∃ m, Iter (MtH w l) m i j
  else if k = 7 then ∃ m, 1 ≤ m ∧ Iter (MtH w l) m i j
  else if k = 8 then ∃ m, m ≤ 1 ∧ Iter (MtH w l) m i j
  else if k = 9 then ∃ m : Nat, lo ≤ m ∧ (m : Int) ≤ hi ∧ Iter (MtH w l) m i j
  else False
def MtJ (w : List Int) : List Nd → Nat → Nat → Prop
 | [] => fun i j => i = j
 | x :: l => fun i j => ∃ k, Mt w x i k ∧ MtJ w l k j
def MtU (w : List Int) : List Nd → Nat → Nat → Prop
 | [] => fun _ _ => False
 | x :: l => fun i j => Mt w x i j ∨ MtU w l i j
def MtH (w : List Int) : List Nd → Nat → Nat → Prop
 | [] => fun _ _ => False
 | x :: _ => Mt w x
end
theorem U8 (w : List Int) (k s lo hi : Int) (l : List Nd) (i j : Nat) : Mt w (.mk k s lo hi l) i j =
  (if k = 1 then j = i + 1 ∧ i < w.length ∧ ar2 s (w.getD i 0) = true
  else if k = 3 then i = j
  else if k = 4 then MtJ w l i j
  else if k = 5 then MtU w l i j
  else if k = 6 then ∃ m, Iter (MtH w l) m i j
  else if k = 7 then ∃ m, 1 ≤ m ∧ Iter (MtH w l) m i j
  else if k = 8 then ∃ m, m ≤ 1 ∧ Iter (MtH w l) m i j
  else if k = 9 then ∃ m : Nat, lo ≤ m ∧ (m : Int) ≤ hi ∧ Iter (MtH w l) m i j
  else False) := by rw [Mt]
theorem aB7 (w : List Int) (x : Nd) (l : List Nd) (i j : Nat) : MtU w (x :: l) i j = (Mt w x i j ∨ MtU w l i j) := by rw [MtU]
inductive Rea (w : List Int) (F : List (Int × Int)) (S : List (Int × Int × Int)) (p : Int) (i : Nat) : Int → Nat → Prop
 | refl : Rea w F S p i p i
 | free {x : Int × Int} {j : Nat} : Rea w F S p i x.1 j → x ∈ F → Rea w F S p i x.2 j
 | step {x : Int × Int × Int} {j : Nat} : Rea w F S p i x.1 j → x ∈ S → j < w.length → ar2 x.2.2 (w.getD j 0) = true → Rea w F S p i x.2.1 (j + 1)
theorem Rea.trans {w F S p i q j r k} (h1 : Rea w F S p i q j) (h2 : Rea w F S q j r k) : Rea w F S p i r k := by
 induction h2 with
 | refl => exact h1
 | free _ hm ih => exact .free ih hm
 | step _ hm hl hs ih => exact .step ih hm hl hs
theorem Rea.mono {w F S F' S' p i q j} (hF : ∀ x ∈ F, x ∈ F') (hS : ∀ x ∈ S, x ∈ S') (h : Rea w F S p i q j) : Rea w F' S' p i q j := by
 induction h with
 | refl => exact .refl
 | free _ hm ih => exact .free ih (hF _ hm)
 | step _ hm hl hs ih => exact .step ih (hS _ hm) hl hs
theorem Rea.one {w F S p i q} (h : (p, q) ∈ F) : Rea w F S p i q i := .free (x := (p, q)) .refl h
def aJ5 (w : List Int) (F : List (Int × Int)) (S : List (Int × Int × Int)) (Sem : Int → Nat → Nat → Prop) : Prop :=
 (∀ x ∈ F, ∀ i j, Sem x.1 i j → Sem x.2 i j) ∧ (∀ x ∈ S, ∀ i j, j < w.length → ar2 x.2.2 (w.getD j 0) = true → Sem x.1 i j → Sem x.2.1 i (j + 1))
theorem Rea.sem {w F S p i q j Sem i0} (h : Rea w F S p i q j) (hc : aJ5 w F S Sem) (h0 : Sem p i0 i) : Sem q i0 j := by
 induction h with
 | refl => exact h0
 | free _ hm ih => exact hc.1 _ hm _ _ ih
 | step _ hm hl hs ih => exact hc.2 _ hm _ _ hl hs ih
structure Frag (w : List Int) (F : List (Int × Int)) (S : List (Int × Int × Int)) (lo hi : Nat) (p : Int × Int) (M : Nat → Nat → Prop) : Prop where
 s : (lo : Int) ≤ p.1 ∧ p.1 < hi
 e : (lo : Int) ≤ p.2 ∧ p.2 < hi
 fin : ∀ x ∈ F, ((lo : Int) ≤ x.1 ∧ x.1 < hi) ∧ (lo : Int) ≤ x.2 ∧ x.2 < hi
 sin : ∀ x ∈ S, ((lo : Int) ≤ x.1 ∧ x.1 < hi) ∧ (lo : Int) ≤ x.2.1 ∧ x.2.1 < hi
 comp : ∀ i j, M i j → Rea w F S p.1 i p.2 j
 sound : ∃ Sem : Int → Nat → Nat → Prop, (∀ i, Sem p.1 i i) ∧ aJ5 w F S Sem ∧ ∀ i j, Sem p.2 i j → M i j
theorem Frag.congr {w F S lo hi p M F' S' M'} (h : Frag w F S lo hi p M) (hF : ∀ x, x ∈ F' ↔ x ∈ F) (hS : ∀ x, x ∈ S' ↔ x ∈ S) (hM : ∀ i j, M' i j ↔ M i j) : Frag w F' S' lo hi p M' := by
 obtain ⟨h1, h2, h3, h4, h5, Sem, h6, h7, h8⟩ := h
 exact ⟨h1, h2, fun x hx => h3 x ((hF x).1 hx), fun x hx => h4 x ((hS x).1 hx), fun i j hm => (h5 i j ((hM i j).1 hm)).mono (fun x hx => (hF x).2 hx) (fun x hx => (hS x).2 hx),
  Sem, h6, ⟨fun x hx => h7.1 x ((hF x).1 hx), fun x hx => h7.2 x ((hS x).1 hx)⟩, fun i j hs => (hM i j).2 (h8 i j hs)⟩
theorem Frag.seq {w F1 S1 F2 S2 lo mid hi p q M1 M2} (h1 : Frag w F1 S1 lo mid p M1) (h2 : Frag w F2 S2 mid hi q M2) : Frag w (F1 ++ F2 ++ [(p.2, q.1)]) (S1 ++ S2) lo hi (p.1, q.2) (fun i j => ∃ k, M1 i k ∧ M2 k j) := by
 obtain ⟨a1, a2, a3, a4, a5, Sem1, a6, a7, a8⟩ := h1
 obtain ⟨b1, b2, b3, b4, b5, Sem2, b6, b7, b8⟩ := h2
 refine ⟨⟨a1.1, by show p.1 < _; omega⟩, ⟨by show _ ≤ q.2; omega, b2.2⟩, ?_, ?_, ?_, ?_⟩
 ·intro x hx
  rcases List.mem_append.1 hx with hx | hx
  ·rcases List.mem_append.1 hx with hx | hx
   ·have := a3 x hx; omega
   ·have := b3 x hx; omega
  ·rw [List.mem_singleton.1 hx]
   show (_ ≤ p.2 ∧ p.2 < _) ∧ _ ≤ q.1 ∧ q.1 < _
   omega
 ·intro x hx
  rcases List.mem_append.1 hx with hx | hx
  ·have := a4 x hx; omega
  ·have := b4 x hx; omega
 ·rintro i j ⟨k, m1, m2⟩
  exact (((a5 i k m1).mono (fun x hx => by simp [hx]) (fun x hx => by simp [hx])).trans (Rea.one (by simp))).trans ((b5 k j m2).mono (fun x hx => by simp [hx]) (fun x hx => by simp [hx]))
 ·refine ⟨fun x i j => if x < (mid : Int) then Sem1 x i j else ∃ k, M1 i k ∧ Sem2 x k j, fun i => by dsimp only; rw [if_pos a1.2]; exact a6 i, ⟨?_, ?_⟩, ?_⟩
  ·intro x hx i j hs
   (try dsimp only at hs ⊢)
   rcases List.mem_append.1 hx with hx | hx
   ·rcases List.mem_append.1 hx with hx | hx
    ·have := a3 x hx
     rw [if_pos (by omega)] at hs ⊢
     exact a7.1 x hx i j hs
    ·have := b3 x hx
     rw [if_neg (by omega)] at hs ⊢
     obtain ⟨k, g1, g2⟩ := hs
     exact ⟨k, g1, b7.1 x hx k j g2⟩
   ·obtain rfl := List.mem_singleton.1 hx
    (try dsimp only at hs ⊢)
    rw [if_pos (by omega)] at hs
    rw [if_neg (by omega)]
    exact ⟨j, a8 i j hs, b6 j⟩
  ·intro x hx i j hl hok hs
   (try dsimp only at hs ⊢)
   rcases List.mem_append.1 hx with hx | hx
   ·have := a4 x hx
    rw [if_pos (by omega)] at hs ⊢
    exact a7.2 x hx i j hl hok hs
   ·have := b4 x hx
    rw [if_neg (by omega)] at hs ⊢
    obtain ⟨k, g1, g2⟩ := hs
    exact ⟨k, g1, b7.2 x hx k j hl hok g2⟩
  ·intro i j hs
   (try dsimp only at hs)
   rw [if_neg (by omega)] at hs
   obtain ⟨k, g1, g2⟩ := hs
   exact ⟨k, g1, b8 k j g2⟩
def bf3 (around back : Bool) (M : Nat → Nat → Prop) (i j : Nat) : Prop := ∃ m, (around = false → 1 ≤ m) ∧ (back = false → m ≤ 1) ∧ Iter M m i j
theorem Frag.once {w F S n hi p M} (h : Frag w F S (n + 1) hi p M) (around back : Bool) :
  Frag w (F ++ ([((n : Int), p.1)] ++ (if around then [((n : Int), (hi : Int))] else []) ++ (if back then [(p.2, p.1)] else []) ++ [(p.2, (hi : Int))])) S n (hi + 1) (n, hi) (bf3 around back M) := by
 obtain ⟨a1, a2, a3, a4, a5, Sem1, a6, a7, a8⟩ := h
 generalize hL : ([((n : Int), p.1)] ++ (if around then [((n : Int), (hi : Int))] else []) ++ (if back then [(p.2, p.1)] else []) ++ [(p.2, (hi : Int))]) = L
 have hmem : ∀ x, x ∈ L ↔ x = ((n : Int), p.1) ∨ (around = true ∧ x = ((n : Int), (hi : Int))) ∨ (back = true ∧ x = (p.2, p.1)) ∨ x = (p.2, (hi : Int)) := by
  intro x
  rw [← hL]
  cases around <;> cases back <;> simp [or_assoc]
 clear hL
 refine ⟨⟨Int.le_refl _, by show (n : Int) < ((hi + 1 : Nat) : Int); omega⟩, ⟨by show (n : Int) ≤ (hi : Int); omega, by show (hi : Int) < ((hi + 1 : Nat) : Int); omega⟩, ?_, fun x hx => by have := a4 x hx; omega, ?_, ?_⟩
 ·intro x hx
  rcases List.mem_append.1 hx with hx | hx
  ·have := a3 x hx; omega
  ·rcases (hmem x).1 hx with rfl | ⟨_, rfl⟩ | ⟨_, rfl⟩ | rfl <;> dsimp only <;> omega
 ·rintro i j ⟨m, m1, m2, hit⟩
  have e0 : Rea w (F ++ L) S n i p.1 i := Rea.one (List.mem_append_right _ ((hmem _).2 (.inl rfl)))
  have e1 : ∀ j, Rea w (F ++ L) S p.2 j hi j := fun j => Rea.one (List.mem_append_right _ ((hmem _).2 (.inr (.inr (.inr rfl)))))
  have ec : ∀ i j, M i j → Rea w (F ++ L) S p.1 i p.2 j := fun i j hm => (a5 i j hm).mono (fun x hx => List.mem_append_left _ hx) (fun x hx => hx)
  have key : ∀ m i j, (back = false → m = 0) → Iter M (m + 1) i j → Rea w (F ++ L) S p.1 i p.2 j := by
   intro m
   induction m with
   | zero =>
    rintro i j _ ⟨k, g1, g2⟩
    obtain rfl : k = j := g2
    exact ec i k g1
   | succ m ih =>
    rintro i j hb ⟨k, g1, g2⟩
    have hbt : back = true := by
     cases back with
     | true => rfl
     | false => have := hb rfl; omega
    exact ((ec i k g1).trans (Rea.one (List.mem_append_right _ ((hmem _).2 (.inr (.inr (.inl ⟨hbt, rfl⟩))))))).trans (ih k j (fun e => absurd hbt (by simp [e])) g2)
  cases m with
  | zero =>
   have hat : around = true := by
    cases around with
    | true => rfl
    | false => have := m1 rfl; omega
   obtain rfl : i = j := hit
   exact Rea.one (List.mem_append_right _ ((hmem _).2 (.inr (.inl ⟨hat, rfl⟩))))
  | succ m => exact (e0.trans (key m i j (fun e => by have := m2 e; omega) hit)).trans (e1 j)
 ·refine ⟨fun x i j => if x = (n : Int) then i = j else if x = (hi : Int) then bf3 around back M i j else ∃ m k, (back = false → m = 0) ∧ Iter M m i k ∧ Sem1 x k j, fun i => by dsimp only; rw [if_pos rfl], ⟨?_, ?_⟩, ?_⟩
  ·intro x hx i j hs
   (try dsimp only at hs ⊢)
   rcases List.mem_append.1 hx with hx | hx
   ·have := a3 x hx
    rw [if_neg (by omega), if_neg (by omega)] at hs ⊢
    obtain ⟨m, k, g1, g2, g3⟩ := hs
    exact ⟨m, k, g1, g2, a7.1 x hx k j g3⟩
   ·rcases (hmem x).1 hx with rfl | ⟨hat, rfl⟩ | ⟨hbt, rfl⟩ | rfl
    ·(try dsimp only at hs ⊢)
     rw [if_pos rfl] at hs
     subst hs
     rw [if_neg (by omega), if_neg (by omega)]
     exact ⟨0, i, fun _ => rfl, rfl, a6 i⟩
    ·(try dsimp only at hs ⊢)
     rw [if_pos rfl] at hs
     subst hs
     rw [if_neg (by omega), if_pos rfl]
     exact ⟨0, fun e => (by rw [hat] at e; cases e), fun _ => by omega, rfl⟩
    ·(try dsimp only at hs ⊢)
     rw [if_neg (by omega), if_neg (by omega)] at hs ⊢
     obtain ⟨m, k, g1, g2, g3⟩ := hs
     exact ⟨m + 1, j, fun e => (by rw [hbt] at e; cases e), g2.snoc (a8 k j g3), a6 j⟩
    ·(try dsimp only at hs ⊢)
     rw [if_neg (by omega), if_neg (by omega)] at hs
     rw [if_neg (by omega), if_pos rfl]
     obtain ⟨m, k, g1, g2, g3⟩ := hs
     exact ⟨m + 1, fun _ => by omega, fun e => by have := g1 e; omega, g2.snoc (a8 k j g3)⟩
  ·intro x hx i j hl hok hs
   (try dsimp only at hs ⊢)
   have := a4 x hx
   rw [if_neg (by omega), if_neg (by omega)] at hs ⊢
   obtain ⟨m, k, g1, g2, g3⟩ := hs
   exact ⟨m, k, g1, g2, a7.2 x hx k j hl hok g3⟩
  ·intro i j hs
   (try dsimp only at hs)
   rwa [if_neg (by omega), if_pos rfl] at hs
inductive Frags (w : List Int) : List (Int × Int) → List (Nat → Nat → Prop) → List (Int × Int) → List (Int × Int × Int) → Nat → Nat → Prop
 | nil (lo : Nat) : Frags w [] [] [] [] lo lo
 | cons {p M F S lo mid hi ps Ms F' S'} : Frag w F S lo mid p M → Frags w ps Ms F' S' mid hi → Frags w (p :: ps) (M :: Ms) (F ++ F') (S ++ S') lo hi
theorem Frags.bounds {w ps Ms F S lo hi} (h : Frags w ps Ms F S lo hi) : lo ≤ hi ∧ (∀ p ∈ ps, ((lo : Int) ≤ p.1 ∧ p.1 < hi) ∧ (lo : Int) ≤ p.2 ∧ p.2 < hi) ∧ (∀ x ∈ F, ((lo : Int) ≤ x.1 ∧ x.1 < hi) ∧ (lo : Int) ≤ x.2 ∧ x.2 < hi) ∧ (∀ x ∈ S, ((lo : Int) ≤ x.1 ∧ x.1 < hi) ∧ (lo : Int) ≤ x.2.1 ∧ x.2.1 < hi) ∧ ps.length = Ms.length := by
 induction h with
 | nil lo => exact ⟨Nat.le_refl _, by simp, by simp, by simp, rfl⟩
 | cons h1 _ ih =>
  obtain ⟨i1, i2, i3, i4, i5⟩ := ih
  have := h1.s
  have := h1.e
  refine ⟨by omega, ?_, ?_, ?_, by rw [List.length_cons, List.length_cons, i5]⟩
  ·intro x hx
   rcases List.mem_cons.1 hx with rfl | hx
   ·omega
   ·have := i2 x hx; omega
  ·intro x hx
   rcases List.mem_append.1 hx with hx | hx
   ·have := h1.fin x hx; omega
   ·have := i3 x hx; omega
  ·intro x hx
   rcases List.mem_append.1 hx with hx | hx
   ·have := h1.sin x hx; omega
   ·have := i4 x hx; omega
def bI9 : List (Nat → Nat → Prop) → Nat → Nat → Prop
 | [] => fun i j => i = j
 | M :: Ms => fun i j => ∃ k, M i k ∧ bI9 Ms k j
theorem Frags.join {w ps Ms F S lo hi} (h : Frags w ps Ms F S lo hi) (hne : ps ≠ []) : Frag w (F ++ M8 ps) S lo hi ((ps.headD (0, 0)).1, (ps.getLastD (0, 0)).2) (bI9 Ms) := by
 induction h with
 | nil lo => exact absurd rfl hne
 | cons h1 h2 ih =>
  rename_i p M F S lo mid hi ps Ms F' S'
  cases h2 with
  | nil lo =>
   refine h1.congr (fun x => by simp [M8]) (fun x => by simp) (fun i j => ?_)
   constructor
   ·rintro ⟨k, g1, g2⟩
    obtain rfl : k = j := g2
    exact g1
   ·exact fun g => ⟨j, g, rfl⟩
  | cons h3 h4 =>
   rename_i q M2 F2 S2 mid2 qs Ms2 F3 S3
   have ih := ih (by simp)
   have := h1.seq ih
   refine this.congr (fun x => ?_) (fun x => by simp) (fun i j => Iff.rfl)
   simp [M8]
   constructor
   ·rintro (g | g | g | g | g) <;> simp [g]
   ·rintro (g | g | g | g | g) <;> simp [g]
def P5 (s e : Int) (ps : List (Int × Int)) : List (Int × Int) := ps.flatMap fun p => [(s, p.1), (p.2, e)]
theorem Frags.unionSem {w ps Ms F S lo hi} (h : Frags w ps Ms F S lo hi) (s e : Int) (hs : s < lo ∨ (hi : Int) ≤ s) (he : e < lo ∨ (hi : Int) ≤ e) (hse : s ≠ e) :
  ∃ Sem : Int → Nat → Nat → Prop, (∀ i j, Sem s i j ↔ i = j) ∧ aJ5 w (F ++ P5 s e ps) S Sem ∧ ∀ i j, Sem e i j → ∃ M ∈ Ms, M i j := by
 induction h with
 | nil lo =>
  refine ⟨fun x i j => x = s ∧ i = j, fun i j => by simp, ⟨fun x hx => ?_, fun x hx => ?_⟩, ?_⟩
  ·simp [P5] at hx
  ·simp at hx
  ·rintro i j ⟨e1, _⟩
   exact absurd e1.symm hse
 | cons h1 h2 ih =>
  rename_i p M F S lo mid hi ps Ms F' S'
  have hb := h2.bounds
  obtain ⟨a1, a2, a3, a4, a5, Sem1, a6, a7, a8⟩ := h1
  obtain ⟨Sem2, b6, b7, b8⟩ := ih (by omega) (by omega)
  refine ⟨fun x i j => if (lo : Int) ≤ x ∧ x < mid then Sem1 x i j else if x = e then (Sem2 e i j ∨ M i j) else Sem2 x i j, fun i j => ?_, ⟨?_, ?_⟩, ?_⟩
  ·dsimp only; rw [if_neg (by omega), if_neg hse]; exact b6 i j
  ·intro x hx i j hs'
   (try dsimp only at hs' ⊢)
   have hcases : x ∈ F ∨ x ∈ F' ∨ x = (s, p.1) ∨ x = (p.2, e) ∨ x ∈ P5 s e ps := by
    simp only [P5, List.flatMap_cons, List.mem_append, List.mem_cons, List.not_mem_nil, or_false] at hx ⊢
    rcases hx with (g | g) | ((g | g) | g) <;> simp [g]
   rcases hcases with hx | hx | rfl | rfl | hx
   ·have := a3 x hx
    rw [if_pos (by omega)] at hs' ⊢
    exact a7.1 x hx i j hs'
   ·have := hb.2.2.1 x hx
    rw [if_neg (by omega), if_neg (by omega)] at hs' ⊢
    exact b7.1 x (List.mem_append_left _ hx) i j hs'
   ·(try dsimp only at hs' ⊢)
    rw [if_neg (by omega), if_neg hse, b6] at hs'
    subst hs'
    rw [if_pos (by omega)]
    exact a6 i
   ·(try dsimp only at hs' ⊢)
    rw [if_pos (by omega)] at hs'
    rw [if_neg (by omega), if_pos rfl]
    exact .inr (a8 i j hs')
   ·obtain ⟨q, hq, hx'⟩ := List.mem_flatMap.1 hx
    have := hb.2.1 q hq
    have hx2 : x = (s, q.1) ∨ x = (q.2, e) := by simpa using hx'
    rcases hx2 with rfl | rfl
    ·(try dsimp only at hs' ⊢)
     rw [if_neg (by omega), if_neg hse] at hs'
     rw [if_neg (by omega), if_neg (by omega)]
     exact b7.1 _ (List.mem_append_right _ hx) i j hs'
    ·(try dsimp only at hs' ⊢)
     rw [if_neg (by omega), if_neg (by omega)] at hs'
     rw [if_neg (by omega), if_pos rfl]
     exact .inl (b7.1 _ (List.mem_append_right _ hx) i j hs')
  ·intro x hx i j hl hok hs'
   (try dsimp only at hs' ⊢)
   rcases List.mem_append.1 hx with hx | hx
   ·have := a4 x hx
    rw [if_pos (by omega)] at hs' ⊢
    exact a7.2 x hx i j hl hok hs'
   ·have := hb.2.2.2.1 x hx
    rw [if_neg (by omega), if_neg (by omega)] at hs' ⊢
    exact b7.2 x hx i j hl hok hs'
  ·intro i j hs'
   (try dsimp only at hs')
   rw [if_neg (by omega), if_pos rfl] at hs'
   rcases hs' with g | g
   ·obtain ⟨M', g1, g2⟩ := b8 i j g
    exact ⟨M', List.mem_cons_of_mem _ g1, g2⟩
   ·exact ⟨M, List.mem_cons_self, g⟩
theorem Frags.unionComp {w ps Ms F S lo hi} (h : Frags w ps Ms F S lo hi) (s e : Int) : ∀ i j, (∃ M ∈ Ms, M i j) → Rea w (F ++ P5 s e ps) S s i e j := by
 induction h with
 | nil lo => rintro i j ⟨M, hM, _⟩; cases hM
 | cons h1 h2 ih =>
  rename_i p M F S lo mid hi ps Ms F' S'
  rintro i j ⟨M', hM, hm⟩
  rcases List.mem_cons.1 hM with rfl | hM
  ·have e1 : (s, p.1) ∈ F ++ F' ++ P5 s e (p :: ps) := by simp [P5]
   have e2 : (p.2, e) ∈ F ++ F' ++ P5 s e (p :: ps) := by simp [P5]
   exact ((Rea.one e1).trans ((h1.comp i j hm).mono (fun x hx => by simp [hx]) (fun x hx => by simp [hx]))).trans (Rea.one e2)
  ·exact (ih i j ⟨M', hM, hm⟩).mono (fun x hx => by
    rcases List.mem_append.1 hx with hx | hx
    ·simp [hx]
    ·have : x ∈ P5 s e (p :: ps) := by simp only [P5, List.flatMap_cons, List.mem_append]; exact .inr hx
     simp [this]) (fun x hx => by simp [hx])
theorem Frags.union {w ps Ms F S n hi} (h : Frags w ps Ms F S (n + 1) hi) : Frag w (F ++ P5 n hi ps) S n (hi + 1) (n, hi) (fun i j => ∃ M ∈ Ms, M i j) := by
 have hb := h.bounds
 obtain ⟨Sem, s1, s2, s3⟩ := h.unionSem n hi (by omega) (by omega) (by omega)
 refine ⟨⟨Int.le_refl _, by show (n : Int) < ((hi + 1 : Nat) : Int); omega⟩, ⟨by show (n : Int) ≤ (hi : Int); omega, by show (hi : Int) < ((hi + 1 : Nat) : Int); omega⟩, ?_, fun x hx => by have := hb.2.2.2.1 x hx; omega, h.unionComp n hi, Sem, fun i => (s1 i i).2 rfl, s2, s3⟩
 intro x hx
 rcases List.mem_append.1 hx with hx | hx
 ·have := hb.2.2.1 x hx; omega
 ·obtain ⟨q, hq, hx'⟩ := List.mem_flatMap.1 hx
  have := hb.2.1 q hq
  have hx2 : x = ((n : Int), q.1) ∨ x = (q.2, (hi : Int)) := by simpa using hx'
  rcases hx2 with rfl | rfl <;> dsimp only <;> omega
theorem ad0 (b e : Int) : ∀ (t : Nat) (ps : List (Int × Int)) (x : Int × Int), x ∈ r9 b e t ps → (∃ r ∈ ps, x.1 = r.2) ∧ (x.2 = e ∨ ∃ r ∈ ps, x.2 = r.1)
 | _, [], x, h => by simp [r9] at h
 | _, [p], x, h => by
  have : x = (p.2, e) := by simpa [r9] using h
  rw [this]
  exact ⟨⟨p, by simp, rfl⟩, .inl rfl⟩
 | t, p :: q :: l, x, h => by
  simp only [r9, List.mem_append, List.mem_cons] at h
  rcases h with g | g | g
  ·split at g
   ·have : x = (p.2, e) := by simpa using g
    rw [this]
    exact ⟨⟨p, by simp, rfl⟩, .inl rfl⟩
   ·simp at g
  ·rw [g]
   exact ⟨⟨p, by simp, rfl⟩, .inr ⟨q, by simp, rfl⟩⟩
  ·obtain ⟨⟨r, h1, h2⟩, h3⟩ := ad0 b e (t + 1) (q :: l) x g
   refine ⟨⟨r, List.mem_cons_of_mem _ h1, h2⟩, ?_⟩
   rcases h3 with h3 | ⟨r', h4, h5⟩
   ·exact .inl h3
   ·exact .inr ⟨r', List.mem_cons_of_mem _ h4, h5⟩
theorem Frags.repSem {w ps Ms F S lo hi} (h : Frags w ps Ms F S lo hi) (M : Nat → Nat → Prop) (hM : ∀ M' ∈ Ms, M' = M) (hne : ps ≠ []) (b : Int) (e : Int) (he : e < lo ∨ (hi : Int) ≤ e) : ∀ t : Nat,
  ∃ Sem : Int → Nat → Nat → Prop, (∀ i, Sem (ps.headD (0, 0)).1 i i) ∧ aJ5 w (F ++ r9 b e t ps) S Sem ∧ ∀ i j, Sem e i j → ∃ c, 1 ≤ c ∧ c ≤ ps.length ∧ (b ≤ (t + c : Nat) ∨ c = ps.length) ∧ Iter M c i j := by
 induction h with
 | nil lo => exact absurd rfl hne
 | cons h1 h2 ih =>
  rename_i p M0 F S lo mid hi ps Ms F' S'
  obtain rfl : M0 = M := hM M0 List.mem_cons_self
  have hb := h2.bounds
  obtain ⟨a1, a2, a3, a4, a5, Sem1, a6, a7, a8⟩ := h1
  intro t
  cases h2 with
  | nil lo =>
   refine ⟨fun x i j => if x = e then M0 i j else Sem1 x i j, fun i => ?_, ⟨?_, ?_⟩, ?_⟩
   ·dsimp only [List.headD_cons]; rw [if_neg (by omega)]; exact a6 i
   ·intro x hx i j hs'
    (try dsimp only at hs' ⊢)
    have hx2 : x ∈ F ∨ x = (p.2, e) := by simpa [r9] using hx
    rcases hx2 with hx | rfl
    ·have := a3 x hx
     rw [if_neg (by omega)] at hs' ⊢
     exact a7.1 x hx i j hs'
    ·(try dsimp only at hs' ⊢)
     rw [if_neg (by omega)] at hs'
     rw [if_pos rfl]
     exact a8 i j hs'
   ·intro x hx i j hl hok hs'
    (try dsimp only at hs' ⊢)
    have hx : x ∈ S := by simpa using hx
    have := a4 x hx
    rw [if_neg (by omega)] at hs' ⊢
    exact a7.2 x hx i j hl hok hs'
   ·intro i j hs'
    (try dsimp only at hs')
    rw [if_pos rfl] at hs'
    exact ⟨1, by omega, by simp, .inr (by simp), j, hs', rfl⟩
  | cons h3 h4 =>
   rename_i q M2 F2 S2 mid2 qs Ms2 F3 S3
   obtain ⟨Sem2, b6, b7, b8⟩ := ih (fun M' h' => hM M' (List.mem_cons_of_mem _ h')) (by simp) (by omega) (t + 1)
   have hq := hb.2.1 q List.mem_cons_self
   refine ⟨fun x i j => if (lo : Int) ≤ x ∧ x < mid then Sem1 x i j else if x = e then ((b ≤ (t + 1 : Nat) ∧ M0 i j) ∨ ∃ k, M0 i k ∧ Sem2 e k j) else ∃ k, M0 i k ∧ Sem2 x k j, fun i => ?_, ⟨?_, ?_⟩, ?_⟩
   ·dsimp only [List.headD_cons]; rw [if_pos (by omega)]; exact a6 i
   ·intro x hx i j hs'
    (try dsimp only at hs' ⊢)
    have hcases : x ∈ F ∨ (x ∈ F2 ++ F3) ∨ (b ≤ (t + 1 : Nat) ∧ x = (p.2, e)) ∨ x = (p.2, q.1) ∨ x ∈ r9 b e (t + 1) (q :: qs) := by
     simp only [r9, List.mem_append, List.mem_cons] at hx ⊢
     rcases hx with (g | g) | (g | (g | g))
     ·exact .inl g
     ·exact .inr (.inl g)
     ·split at g
      ·rename_i hc
       exact .inr (.inr (.inl ⟨by omega, by simpa using g⟩))
      ·simp at g
     ·exact .inr (.inr (.inr (.inl g)))
     ·exact .inr (.inr (.inr (.inr g)))
    rcases hcases with hx | hx | ⟨hc, rfl⟩ | rfl | hx
    ·have := a3 x hx
     rw [if_pos (by omega)] at hs' ⊢
     exact a7.1 x hx i j hs'
    ·have := hb.2.2.1 x hx
     rw [if_neg (by omega), if_neg (by omega)] at hs' ⊢
     obtain ⟨k, g1, g2⟩ := hs'
     exact ⟨k, g1, b7.1 x (List.mem_append_left _ hx) k j g2⟩
    ·(try dsimp only at hs' ⊢)
     rw [if_pos (by omega)] at hs'
     rw [if_neg (by omega), if_pos rfl]
     exact .inl ⟨hc, a8 i j hs'⟩
    ·(try dsimp only at hs' ⊢)
     rw [if_pos (by omega)] at hs'
     rw [if_neg (by omega), if_neg (by omega)]
     exact ⟨j, a8 i j hs', b6 j⟩
    ·have hin := ad0 b e (t + 1) (q :: qs) x hx
     have hp1 : ∃ r ∈ q :: qs, x.1 = r.2 := hin.1
     obtain ⟨r, hr, hr1⟩ := hp1
     have := hb.2.1 r hr
     rw [if_neg (by omega), if_neg (by omega)] at hs'
     obtain ⟨k, g1, g2⟩ := hs'
     have g3 := b7.1 x (List.mem_append_right _ hx) k j g2
     rcases hin.2 with h5 | ⟨r', hr', h5⟩
     ·rw [if_neg (by omega), if_pos h5]
      rw [h5] at g3
      exact .inr ⟨k, g1, g3⟩
     ·have := hb.2.1 r' hr'
      rw [if_neg (by omega), if_neg (by omega)]
      exact ⟨k, g1, g3⟩
   ·intro x hx i j hl hok hs'
    (try dsimp only at hs' ⊢)
    rcases List.mem_append.1 hx with hx | hx
    ·have := a4 x hx
     rw [if_pos (by omega)] at hs' ⊢
     exact a7.2 x hx i j hl hok hs'
    ·have := hb.2.2.2.1 x hx
     rw [if_neg (by omega), if_neg (by omega)] at hs' ⊢
     obtain ⟨k, g1, g2⟩ := hs'
     exact ⟨k, g1, b7.2 x hx k j hl hok g2⟩
   ·intro i j hs'
    (try dsimp only at hs')
    rw [if_neg (by omega), if_pos rfl] at hs'
    rcases hs' with ⟨g1, g2⟩ | ⟨k, g1, g2⟩
    ·exact ⟨1, by omega, by simp, .inl g1, j, g2, rfl⟩
    ·obtain ⟨c, c1, c2, c3, c4⟩ := b8 k j g2
     refine ⟨c + 1, by omega, by rw [List.length_cons]; omega, ?_, k, g1, c4⟩
     rcases c3 with c3 | c3
     ·left
      have : t + (c + 1) = t + 1 + c := by omega
      rw [this]; exact c3
     ·right; rw [List.length_cons, c3]
abbrev nJ (a b : Nd) : Nd := .mk 4 0 0 0 [a, b]
abbrev nU (a b : Nd) : Nd := .mk 5 0 0 0 [a, b]
abbrev nS (a : Nd) : Nd := .mk 6 0 0 0 [a]
abbrev nP (a : Nd) : Nd := .mk 7 0 0 0 [a]
abbrev nO (a : Nd) : Nd := .mk 8 0 0 0 [a]
abbrev nR (lo hi : Int) (a : Nd) : Nd := .mk 9 0 lo hi [a]
abbrev nE : Nd := .mk 3 0 0 0 []
abbrev nN : Nd := .mk 2 0 0 0 []
variable {w : List Int} {a b : Nd} {i j : Nat}
theorem aB8 (w : List Int) (a : Nd) (l : List Nd) : MtH w (a :: l) = Mt w a := by rw [MtH]
theorem bf4 : Mt w (nJ a b) i j ↔ ∃ k, Mt w a i k ∧ Mt w b k j := by
 rw [U8, if_neg (by decide), if_neg (by decide), if_pos rfl, MtJ]
 constructor
 ·rintro ⟨k, h1, h2⟩
  rw [MtJ] at h2
  obtain ⟨k', h2, h3⟩ := h2
  rw [MtJ] at h3
  exact ⟨k, h1, h3 ▸ h2⟩
 ·rintro ⟨k, h1, h2⟩
  exact ⟨k, h1, by rw [MtJ]; exact ⟨j, h2, by rw [MtJ]⟩⟩
theorem bx4 : Mt w (nU a b) i j ↔ Mt w a i j ∨ Mt w b i j := by
 rw [U8, if_neg (by decide), if_neg (by decide), if_neg (by decide), if_pos rfl, aB7, aB7, MtU]
 simp
theorem aB9 : Mt w (nS a) i j ↔ ∃ m, Iter (Mt w a) m i j := by
 rw [U8, if_neg (by decide), if_neg (by decide), if_neg (by decide), if_neg (by decide), if_pos rfl, aB8]
theorem df5 : Mt w (nP a) i j ↔ ∃ m, 1 ≤ m ∧ Iter (Mt w a) m i j := by
 rw [U8, if_neg (by decide), if_neg (by decide), if_neg (by decide), if_neg (by decide), if_neg (by decide), if_pos rfl, aB8]
theorem do8 : Mt w (nO a) i j ↔ ∃ m, m ≤ 1 ∧ Iter (Mt w a) m i j := by
 rw [U8, if_neg (by decide), if_neg (by decide), if_neg (by decide), if_neg (by decide), if_neg (by decide), if_neg (by decide), if_pos rfl, aB8]
theorem df6 {lo hi : Int} : Mt w (nR lo hi a) i j ↔ ∃ m : Nat, lo ≤ m ∧ (m : Int) ≤ hi ∧ Iter (Mt w a) m i j := by
 rw [U8, if_neg (by decide), if_neg (by decide), if_neg (by decide), if_neg (by decide), if_neg (by decide), if_neg (by decide), if_neg (by decide), if_pos rfl, aB8]
theorem bZ3 : Mt w nE i j ↔ i = j := by
 rw [U8, if_neg (by decide), if_pos rfl]
theorem cR0 : Mt w nN i j ↔ False := by
 rw [U8, if_neg (by decide), if_neg (by decide), if_neg (by decide), if_neg (by decide), if_neg (by decide), if_neg (by decide), if_neg (by decide), if_neg (by decide)]
theorem X0 {R : Nat → Nat → Prop} : Iter R 0 i j ↔ i = j := by rw [Iter]
theorem aj1 {R : Nat → Nat → Prop} {m : Nat} : Iter R (m + 1) i j ↔ ∃ k, R i k ∧ Iter R m k j := by rw [Iter]
theorem ad1 {R : Nat → Nat → Prop} : Iter R 1 i j ↔ R i j := by
 rw [aj1]
 constructor
 ·rintro ⟨k, h1, h2⟩
  rw [X0] at h2
  exact h2 ▸ h1
 ·intro h
  exact ⟨j, h, X0.2 rfl⟩
theorem ak3 {R : Nat → Nat → Prop} : ∀ {m n i k j : Nat}, Iter R m i k → Iter R n k j → Iter R (m + n) i j
 | 0, n, i, k, j, h1, h2 => by
  rw [X0] at h1
  rw [Nat.zero_add, h1]
  exact h2
 | m + 1, n, i, k, j, h1, h2 => by
  obtain ⟨x, h3, h4⟩ := aj1.1 h1
  rw [Nat.add_right_comm]
  exact aj1.2 ⟨x, h3, ak3 h4 h2⟩
theorem ax0 {R : Nat → Nat → Prop} : ∀ {m i j : Nat}, Iter R (m + 1) i j → ∃ k, Iter R m i k ∧ R k j
 | 0, i, j, h => ⟨i, X0.2 rfl, ad1.1 h⟩
 | m + 1, i, j, h => by
  obtain ⟨x, h1, h2⟩ := aj1.1 h
  obtain ⟨k, h3, h4⟩ := ax0 h2
  exact ⟨k, aj1.2 ⟨x, h1, h3⟩, h4⟩
theorem P6 {R S : Nat → Nat → Prop} (h : ∀ i j, R i j → ∃ n, Iter S n i j) : ∀ {m i j : Nat}, Iter R m i j → ∃ n, Iter S n i j
 | 0, i, j, h0 => ⟨0, h0⟩
 | m + 1, i, j, h0 => by
  obtain ⟨x, h1, h2⟩ := aj1.1 h0
  obtain ⟨n1, h3⟩ := h _ _ h1
  obtain ⟨n2, h4⟩ := P6 h h2
  exact ⟨n1 + n2, ak3 h3 h4⟩
def X1 (a b : Nd) : Prop := ∀ (w : List Int) (i j : Nat), Mt w a i j ↔ Mt w b i j
theorem cR1 (a b) : X1 (nU a b) (nU b a) := fun w i j => by rw [bx4, bx4]; exact or_comm
theorem cR2 (a) : X1 (nU a a) a := fun w i j => by rw [bx4]; exact or_self_iff
theorem cR3 (a) : X1 (nJ a nE) (nJ nE a) := fun w i j => by
 rw [bf4, bf4]
 constructor
 ·rintro ⟨k, h1, h2⟩
  rw [bZ3] at h2
  exact ⟨i, bZ3.2 rfl, h2 ▸ h1⟩
 ·rintro ⟨k, h1, h2⟩
  rw [bZ3] at h1
  exact ⟨j, h1 ▸ h2, bZ3.2 rfl⟩
theorem cR4 (a) : X1 (nJ a nN) nN := fun w i j => by
 rw [bf4, cR0]
 constructor
 ·rintro ⟨k, h1, h2⟩
  exact cR0.1 h2
 ·exact False.elim
theorem cR5 (a) : X1 (nJ (nS a) a) (nP a) := fun w i j => by
 rw [bf4, df5]
 constructor
 ·rintro ⟨k, h1, h2⟩
  obtain ⟨m, h1⟩ := aB9.1 h1
  exact ⟨m + 1, by omega, ak3 h1 (ad1.2 h2)⟩
 ·rintro ⟨m, hm, h⟩
  obtain ⟨n, rfl⟩ : ∃ n, m = n + 1 := ⟨m - 1, by omega⟩
  obtain ⟨k, h1, h2⟩ := ax0 h
  exact ⟨k, aB9.2 ⟨n, h1⟩, h2⟩
theorem cR6 (a) : X1 (nS (nS a)) (nS a) := fun w i j => by
 rw [aB9, aB9]
 constructor
 ·rintro ⟨m, h⟩
  exact P6 (fun i j h => aB9.1 h) h
 ·rintro ⟨m, h⟩
  exact ⟨1, ad1.2 (aB9.2 ⟨m, h⟩)⟩
theorem cR7 (a) : X1 (nO a) (nU nE a) := fun w i j => by
 rw [do8, bx4, bZ3]
 constructor
 ·rintro ⟨m, hm, h⟩
  by_cases e : m = 0
  ·subst e; exact .inl (X0.1 h)
  ·obtain rfl : m = 1 := by omega
   exact .inr (ad1.1 h)
 ·rintro (h | h)
  ·exact ⟨0, by omega, X0.2 h⟩
  ·exact ⟨1, by omega, ad1.2 h⟩
theorem cR8 (a) : X1 (nR 1 2 a) (nU a (nJ a a)) := fun w i j => by
 rw [df6, bx4, bf4]
 constructor
 ·rintro ⟨m, h1, h2, h⟩
  by_cases e : m = 1
  ·subst e; exact .inl (ad1.1 h)
  ·obtain rfl : m = 2 := by omega
   obtain ⟨k, h3, h4⟩ := aj1.1 h
   exact .inr ⟨k, h3, ad1.1 h4⟩
 ·rintro (h | ⟨k, h3, h4⟩)
  ·exact ⟨1, by omega, by omega, ad1.2 h⟩
  ·exact ⟨2, by omega, by omega, aj1.2 ⟨k, h3, ad1.2 h4⟩⟩
theorem cR9 (a) : X1 (nU (nP a) nE) (nS a) := fun w i j => by
 rw [bx4, df5, bZ3, aB9]
 constructor
 ·rintro (⟨m, _, h⟩ | h)
  ·exact ⟨m, h⟩
  ·exact ⟨0, X0.2 h⟩
 ·rintro ⟨m, h⟩
  by_cases e : m = 0
  ·subst e; exact .inr (X0.1 h)
  ·exact .inl ⟨m, by omega, h⟩
theorem cS0 (a b) : X1 (nS (nU a b)) (nS (nJ (nS a) (nS b))) := fun w i j => by
 rw [aB9, aB9]
 constructor
 ·rintro ⟨m, h⟩
  refine P6 (fun i j h => ⟨1, ad1.2 ?_⟩) h
  rw [bf4]
  rcases bx4.1 h with h | h
  ·exact ⟨j, aB9.2 ⟨1, ad1.2 h⟩, aB9.2 ⟨0, X0.2 rfl⟩⟩
  ·exact ⟨i, aB9.2 ⟨0, X0.2 rfl⟩, aB9.2 ⟨1, ad1.2 h⟩⟩
 ·rintro ⟨m, h⟩
  refine P6 (fun i j h => ?_) h
  obtain ⟨k, h1, h2⟩ := bf4.1 h
  obtain ⟨m1, h1⟩ := aB9.1 h1
  obtain ⟨m2, h2⟩ := aB9.1 h2
  obtain ⟨n1, g1⟩ := P6 (S := Mt w (nU a b)) (fun i j h => ⟨1, ad1.2 (bx4.2 (.inl h))⟩) h1
  obtain ⟨n2, g2⟩ := P6 (S := Mt w (nU a b)) (fun i j h => ⟨1, ad1.2 (bx4.2 (.inr h))⟩) h2
  exact ⟨n1 + n2, ak3 g1 g2⟩
theorem cu8 (a) : X1 (nU a nN) a := fun w i j => by rw [bx4, cR0]; exact ⟨fun h => h.elim id False.elim, .inl⟩
theorem cu9 (a) : X1 (nR 0 0 a) nE := fun w i j => by
 rw [df6, bZ3]
 constructor
 ·rintro ⟨m, _, h2, h⟩
  obtain rfl : m = 0 := by omega
  exact X0.1 h
 ·intro h
  exact ⟨0, by omega, by omega, X0.2 h⟩
theorem bM7 : ∀ {m i k j : Nat}, Iter (Mt w (nJ a b)) m i k → Mt w a k j → ∃ x, Mt w a i x ∧ Iter (Mt w (nJ b a)) m x j
 | 0, i, k, j, h1, h2 => by
  rw [X0] at h1
  exact ⟨j, h1 ▸ h2, X0.2 rfl⟩
 | m + 1, i, k, j, h1, h2 => by
  obtain ⟨y, h3, h4⟩ := aj1.1 h1
  obtain ⟨z, h5, h6⟩ := bf4.1 h3
  obtain ⟨x, h7, h8⟩ := bM7 h4 h2
  exact ⟨z, h5, aj1.2 ⟨x, bf4.2 ⟨y, h6, h7⟩, h8⟩⟩
theorem bM8 : ∀ {m i k j : Nat}, Mt w a i k → Iter (Mt w (nJ b a)) m k j → ∃ x, Iter (Mt w (nJ a b)) m i x ∧ Mt w a x j
 | 0, i, k, j, h1, h2 => by
  rw [X0] at h2
  exact ⟨i, X0.2 rfl, h2 ▸ h1⟩
 | m + 1, i, k, j, h1, h2 => by
  obtain ⟨y, h3, h4⟩ := aj1.1 h2
  obtain ⟨z, h5, h6⟩ := bf4.1 h3
  obtain ⟨x, h7, h8⟩ := bM8 h6 h4
  exact ⟨x, aj1.2 ⟨z, bf4.2 ⟨k, h1, h5⟩, h7⟩, h8⟩
theorem cv0 (a b) : X1 (nJ (nS (nJ a b)) a) (nJ a (nS (nJ b a))) := fun w i j => by
 rw [bf4, bf4]
 constructor
 ·rintro ⟨k, h1, h2⟩
  obtain ⟨m, h1⟩ := aB9.1 h1
  obtain ⟨x, h3, h4⟩ := bM7 h1 h2
  exact ⟨x, h3, aB9.2 ⟨m, h4⟩⟩
 ·rintro ⟨k, h1, h2⟩
  obtain ⟨m, h2⟩ := aB9.1 h2
  obtain ⟨x, h3, h4⟩ := bM8 h1 h2
  exact ⟨x, aB9.2 ⟨m, h3⟩, h4⟩
end Go.Proofs.YtpmjpogcaglphaaDoor.A
