/- The language of an expression; pieces of a machine that take just a language. -/
import Derived.Test.YthhfjjnhkifbfaaDoorMLDTakes1
import Derived.Test.YthhfjjnhkifbfaaDoorMLDTakes2
import Derived.Test.YthhfjjnhkifbfaaDoorMLDTakes3
import Derived.Test.YthhfjjnhkifbfaaDoorMLDTakes4
import Derived.Test.YthhfjjnhkifbfaaDoorMLDTakes5
import Derived.Test.YthhfjjnhkifbfaaDoorMLDTakes6
import Derived.Test.YthhfjjnhkifbfaaDoorMLDTakes7
import Derived.Test.YthhfjjnhkifbfaaDoorMLDTakes8
set_option linter.unusedVariables false
set_option linter.unusedSimpArgs false
set_option linter.unnecessarySimpa false
namespace Go.Proofs.YthhfjjnhkifbfaaDoor.A
open Go
set_option maxRecDepth 20000
/-! ### the language -/
def stepOk (v m : Int) : Bool := decide (0 ≤ m) && decide (m < 5) && hasMode v m
def Iter (R : Nat → Nat → Prop) : Nat → Nat → Nat → Prop
  | 0, i, j => i = j
  | m + 1, i, j => ∃ k, R i k ∧ Iter R m k j
theorem Iter.snoc {R : Nat → Nat → Prop} : ∀ {m i k j}, Iter R m i k → R k j → Iter R (m + 1) i j
  | 0, i, k, j, h, h1 => by
    have h : i = k := h
    subst h
    exact ⟨j, h1, rfl⟩
  | m + 1, i, k, j, ⟨x, h2, h3⟩, h1 => ⟨x, h2, Iter.snoc h3 h1⟩
mutual
/-- From a place in a word to another one, by a word of it. -/
def Mt (w : List Int) : Nd → Nat → Nat → Prop
  | .mk k s lo hi l => fun i j =>
    if k = 1 then j = i + 1 ∧ i < w.length ∧ stepOk s (w.getD i 0) = true
    else if k = 3 then i = j
    else if k = 4 then MtJ w l i j
    else if k = 5 then MtU w l i j
    else if k = 6 then ∃ m, Iter (MtH w l) m i j
    else if k = 7 then ∃ m, 1 ≤ m ∧ Iter (MtH w l) m i j
    else if k = 8 then ∃ m, m ≤ 1 ∧ Iter (MtH w l) m i j
    else if k = 9 then ∃ m : Nat, lo ≤ m ∧ (m : Int) ≤ hi ∧ Iter (MtH w l) m i j
    else False
def MtJ (w : List Int) : List Nd → Nat → Nat → Prop
  | [] => fun i j => i = j
  | x :: l => fun i j => ∃ k, Mt w x i k ∧ MtJ w l k j
def MtU (w : List Int) : List Nd → Nat → Nat → Prop
  | [] => fun _ _ => False
  | x :: l => fun i j => Mt w x i j ∨ MtU w l i j
def MtH (w : List Int) : List Nd → Nat → Nat → Prop
  | [] => fun _ _ => False
  | x :: _ => Mt w x
end
theorem Mt_eq (w : List Int) (k s lo hi : Int) (l : List Nd) (i j : Nat) : Mt w (.mk k s lo hi l) i j =
    (if k = 1 then j = i + 1 ∧ i < w.length ∧ stepOk s (w.getD i 0) = true
    else if k = 3 then i = j
    else if k = 4 then MtJ w l i j
    else if k = 5 then MtU w l i j
    else if k = 6 then ∃ m, Iter (MtH w l) m i j
    else if k = 7 then ∃ m, 1 ≤ m ∧ Iter (MtH w l) m i j
    else if k = 8 then ∃ m, m ≤ 1 ∧ Iter (MtH w l) m i j
    else if k = 9 then ∃ m : Nat, lo ≤ m ∧ (m : Int) ≤ hi ∧ Iter (MtH w l) m i j
    else False) := by rw [Mt]
theorem MtU_cons (w : List Int) (x : Nd) (l : List Nd) (i j : Nat) : MtU w (x :: l) i j = (Mt w x i j ∨ MtU w l i j) := by rw [MtU]
/-! ### ways through a machine -/
inductive Rea (w : List Int) (F : List (Int × Int)) (S : List (Int × Int × Int)) (p : Int) (i : Nat) : Int → Nat → Prop
  | refl : Rea w F S p i p i
  | free {x : Int × Int} {j : Nat} : Rea w F S p i x.1 j → x ∈ F → Rea w F S p i x.2 j
  | step {x : Int × Int × Int} {j : Nat} : Rea w F S p i x.1 j → x ∈ S → j < w.length → stepOk x.2.2 (w.getD j 0) = true → Rea w F S p i x.2.1 (j + 1)
theorem Rea.trans {w F S p i q j r k} (h1 : Rea w F S p i q j) (h2 : Rea w F S q j r k) : Rea w F S p i r k := by
  induction h2 with
  | refl => exact h1
  | free _ hm ih => exact .free ih hm
  | step _ hm hl hs ih => exact .step ih hm hl hs
theorem Rea.mono {w F S F' S' p i q j} (hF : ∀ x ∈ F, x ∈ F') (hS : ∀ x ∈ S, x ∈ S') (h : Rea w F S p i q j) : Rea w F' S' p i q j := by
  induction h with
  | refl => exact .refl
  | free _ hm ih => exact .free ih (hF _ hm)
  | step _ hm hl hs ih => exact .step ih (hS _ hm) hl hs
theorem Rea.one {w F S p i q} (h : (p, q) ∈ F) : Rea w F S p i q i := .free (x := (p, q)) .refl h
def Closed (w : List Int) (F : List (Int × Int)) (S : List (Int × Int × Int)) (Sem : Int → Nat → Nat → Prop) : Prop :=
  (∀ x ∈ F, ∀ i j, Sem x.1 i j → Sem x.2 i j) ∧ (∀ x ∈ S, ∀ i j, j < w.length → stepOk x.2.2 (w.getD j 0) = true → Sem x.1 i j → Sem x.2.1 i (j + 1))
theorem Rea.sem {w F S p i q j Sem i0} (h : Rea w F S p i q j) (hc : Closed w F S Sem) (h0 : Sem p i0 i) : Sem q i0 j := by
  induction h with
  | refl => exact h0
  | free _ hm ih => exact hc.1 _ hm _ _ ih
  | step _ hm hl hs ih => exact hc.2 _ hm _ _ hl hs ih
/-- Pieces of a machine: states from lo to hi, where it begins, where it ends, what it takes. -/
structure Frag (w : List Int) (F : List (Int × Int)) (S : List (Int × Int × Int)) (lo hi : Nat) (p : Int × Int) (M : Nat → Nat → Prop) : Prop where
  s : (lo : Int) ≤ p.1 ∧ p.1 < hi
  e : (lo : Int) ≤ p.2 ∧ p.2 < hi
  fin : ∀ x ∈ F, ((lo : Int) ≤ x.1 ∧ x.1 < hi) ∧ (lo : Int) ≤ x.2 ∧ x.2 < hi
  sin : ∀ x ∈ S, ((lo : Int) ≤ x.1 ∧ x.1 < hi) ∧ (lo : Int) ≤ x.2.1 ∧ x.2.1 < hi
  comp : ∀ i j, M i j → Rea w F S p.1 i p.2 j
  sound : ∃ Sem : Int → Nat → Nat → Prop, (∀ i, Sem p.1 i i) ∧ Closed w F S Sem ∧ ∀ i j, Sem p.2 i j → M i j
theorem Frag.congr {w F S lo hi p M F' S' M'} (h : Frag w F S lo hi p M) (hF : ∀ x, x ∈ F' ↔ x ∈ F) (hS : ∀ x, x ∈ S' ↔ x ∈ S) (hM : ∀ i j, M' i j ↔ M i j) : Frag w F' S' lo hi p M' := by
  obtain ⟨h1, h2, h3, h4, h5, Sem, h6, h7, h8⟩ := h
  exact ⟨h1, h2, fun x hx => h3 x ((hF x).1 hx), fun x hx => h4 x ((hS x).1 hx), fun i j hm => (h5 i j ((hM i j).1 hm)).mono (fun x hx => (hF x).2 hx) (fun x hx => (hS x).2 hx),
    Sem, h6, ⟨fun x hx => h7.1 x ((hF x).1 hx), fun x hx => h7.2 x ((hS x).1 hx)⟩, fun i j hs => (hM i j).2 (h8 i j hs)⟩
theorem Frag.seq {w F1 S1 F2 S2 lo mid hi p q M1 M2} (h1 : Frag w F1 S1 lo mid p M1) (h2 : Frag w F2 S2 mid hi q M2) : Frag w (F1 ++ F2 ++ [(p.2, q.1)]) (S1 ++ S2) lo hi (p.1, q.2) (fun i j => ∃ k, M1 i k ∧ M2 k j) := by
  obtain ⟨a1, a2, a3, a4, a5, Sem1, a6, a7, a8⟩ := h1
  obtain ⟨b1, b2, b3, b4, b5, Sem2, b6, b7, b8⟩ := h2
  refine ⟨⟨a1.1, by show p.1 < _; omega⟩, ⟨by show _ ≤ q.2; omega, b2.2⟩, ?_, ?_, ?_, ?_⟩
  · intro x hx
    rcases List.mem_append.1 hx with hx | hx
    · rcases List.mem_append.1 hx with hx | hx
      · have := a3 x hx; omega
      · have := b3 x hx; omega
    · rw [List.mem_singleton.1 hx]
      show (_ ≤ p.2 ∧ p.2 < _) ∧ _ ≤ q.1 ∧ q.1 < _
      omega
  · intro x hx
    rcases List.mem_append.1 hx with hx | hx
    · have := a4 x hx; omega
    · have := b4 x hx; omega
  · rintro i j ⟨k, m1, m2⟩
    exact (((a5 i k m1).mono (fun x hx => by simp [hx]) (fun x hx => by simp [hx])).trans (Rea.one (by simp))).trans ((b5 k j m2).mono (fun x hx => by simp [hx]) (fun x hx => by simp [hx]))
  · refine ⟨fun x i j => if x < (mid : Int) then Sem1 x i j else ∃ k, M1 i k ∧ Sem2 x k j, fun i => by dsimp only; rw [if_pos a1.2]; exact a6 i, ⟨?_, ?_⟩, ?_⟩
    · intro x hx i j hs
      (try dsimp only at hs ⊢)
      rcases List.mem_append.1 hx with hx | hx
      · rcases List.mem_append.1 hx with hx | hx
        · have := a3 x hx
          rw [if_pos (by omega)] at hs ⊢
          exact a7.1 x hx i j hs
        · have := b3 x hx
          rw [if_neg (by omega)] at hs ⊢
          obtain ⟨k, g1, g2⟩ := hs
          exact ⟨k, g1, b7.1 x hx k j g2⟩
      · obtain rfl := List.mem_singleton.1 hx
        (try dsimp only at hs ⊢)
        rw [if_pos (by omega)] at hs
        rw [if_neg (by omega)]
        exact ⟨j, a8 i j hs, b6 j⟩
    · intro x hx i j hl hok hs
      (try dsimp only at hs ⊢)
      rcases List.mem_append.1 hx with hx | hx
      · have := a4 x hx
        rw [if_pos (by omega)] at hs ⊢
        exact a7.2 x hx i j hl hok hs
      · have := b4 x hx
        rw [if_neg (by omega)] at hs ⊢
        obtain ⟨k, g1, g2⟩ := hs
        exact ⟨k, g1, b7.2 x hx k j hl hok g2⟩
    · intro i j hs
      (try dsimp only at hs)
      rw [if_neg (by omega)] at hs
      obtain ⟨k, g1, g2⟩ := hs
      exact ⟨k, g1, b8 k j g2⟩
def onceM (around back : Bool) (M : Nat → Nat → Prop) (i j : Nat) : Prop := ∃ m, (around = false → 1 ≤ m) ∧ (back = false → m ≤ 1) ∧ Iter M m i j
theorem Frag.once {w F S n hi p M} (h : Frag w F S (n + 1) hi p M) (around back : Bool) :
    Frag w (F ++ ([((n : Int), p.1)] ++ (if around then [((n : Int), (hi : Int))] else []) ++ (if back then [(p.2, p.1)] else []) ++ [(p.2, (hi : Int))])) S n (hi + 1) (n, hi) (onceM around back M) := by
  obtain ⟨a1, a2, a3, a4, a5, Sem1, a6, a7, a8⟩ := h
  generalize hL : ([((n : Int), p.1)] ++ (if around then [((n : Int), (hi : Int))] else []) ++ (if back then [(p.2, p.1)] else []) ++ [(p.2, (hi : Int))]) = L
  have hmem : ∀ x, x ∈ L ↔ x = ((n : Int), p.1) ∨ (around = true ∧ x = ((n : Int), (hi : Int))) ∨ (back = true ∧ x = (p.2, p.1)) ∨ x = (p.2, (hi : Int)) := by
    intro x
    rw [← hL]
    cases around <;> cases back <;> simp [or_assoc]
  clear hL
  refine ⟨⟨Int.le_refl _, by show (n : Int) < ((hi + 1 : Nat) : Int); omega⟩, ⟨by show (n : Int) ≤ (hi : Int); omega, by show (hi : Int) < ((hi + 1 : Nat) : Int); omega⟩, ?_, fun x hx => by have := a4 x hx; omega, ?_, ?_⟩
  · intro x hx
    rcases List.mem_append.1 hx with hx | hx
    · have := a3 x hx; omega
    · rcases (hmem x).1 hx with rfl | ⟨_, rfl⟩ | ⟨_, rfl⟩ | rfl <;> dsimp only <;> omega
  · rintro i j ⟨m, m1, m2, hit⟩
    have e0 : Rea w (F ++ L) S n i p.1 i := Rea.one (List.mem_append_right _ ((hmem _).2 (.inl rfl)))
    have e1 : ∀ j, Rea w (F ++ L) S p.2 j hi j := fun j => Rea.one (List.mem_append_right _ ((hmem _).2 (.inr (.inr (.inr rfl)))))
    have ec : ∀ i j, M i j → Rea w (F ++ L) S p.1 i p.2 j := fun i j hm => (a5 i j hm).mono (fun x hx => List.mem_append_left _ hx) (fun x hx => hx)
    have key : ∀ m i j, (back = false → m = 0) → Iter M (m + 1) i j → Rea w (F ++ L) S p.1 i p.2 j := by
      intro m
      induction m with
      | zero =>
        rintro i j _ ⟨k, g1, g2⟩
        obtain rfl : k = j := g2
        exact ec i k g1
      | succ m ih =>
        rintro i j hb ⟨k, g1, g2⟩
        have hbt : back = true := by
          cases back with
          | true => rfl
          | false => have := hb rfl; omega
        exact ((ec i k g1).trans (Rea.one (List.mem_append_right _ ((hmem _).2 (.inr (.inr (.inl ⟨hbt, rfl⟩))))))).trans (ih k j (fun e => absurd hbt (by simp [e])) g2)
    cases m with
    | zero =>
      have hat : around = true := by
        cases around with
        | true => rfl
        | false => have := m1 rfl; omega
      obtain rfl : i = j := hit
      exact Rea.one (List.mem_append_right _ ((hmem _).2 (.inr (.inl ⟨hat, rfl⟩))))
    | succ m => exact (e0.trans (key m i j (fun e => by have := m2 e; omega) hit)).trans (e1 j)
  · refine ⟨fun x i j => if x = (n : Int) then i = j else if x = (hi : Int) then onceM around back M i j else ∃ m k, (back = false → m = 0) ∧ Iter M m i k ∧ Sem1 x k j, fun i => by dsimp only; rw [if_pos rfl], ⟨?_, ?_⟩, ?_⟩
    · intro x hx i j hs
      (try dsimp only at hs ⊢)
      rcases List.mem_append.1 hx with hx | hx
      · have := a3 x hx
        rw [if_neg (by omega), if_neg (by omega)] at hs ⊢
        obtain ⟨m, k, g1, g2, g3⟩ := hs
        exact ⟨m, k, g1, g2, a7.1 x hx k j g3⟩
      · rcases (hmem x).1 hx with rfl | ⟨hat, rfl⟩ | ⟨hbt, rfl⟩ | rfl
        · (try dsimp only at hs ⊢)
          rw [if_pos rfl] at hs
          subst hs
          rw [if_neg (by omega), if_neg (by omega)]
          exact ⟨0, i, fun _ => rfl, rfl, a6 i⟩
        · (try dsimp only at hs ⊢)
          rw [if_pos rfl] at hs
          subst hs
          rw [if_neg (by omega), if_pos rfl]
          exact ⟨0, fun e => (by rw [hat] at e; cases e), fun _ => by omega, rfl⟩
        · (try dsimp only at hs ⊢)
          rw [if_neg (by omega), if_neg (by omega)] at hs ⊢
          obtain ⟨m, k, g1, g2, g3⟩ := hs
          exact ⟨m + 1, j, fun e => (by rw [hbt] at e; cases e), g2.snoc (a8 k j g3), a6 j⟩
        · (try dsimp only at hs ⊢)
          rw [if_neg (by omega), if_neg (by omega)] at hs
          rw [if_neg (by omega), if_pos rfl]
          obtain ⟨m, k, g1, g2, g3⟩ := hs
          exact ⟨m + 1, fun _ => by omega, fun e => by have := g1 e; omega, g2.snoc (a8 k j g3)⟩
    · intro x hx i j hl hok hs
      (try dsimp only at hs ⊢)
      have := a4 x hx
      rw [if_neg (by omega), if_neg (by omega)] at hs ⊢
      obtain ⟨m, k, g1, g2, g3⟩ := hs
      exact ⟨m, k, g1, g2, a7.2 x hx k j hl hok g3⟩
    · intro i j hs
      (try dsimp only at hs)
      rwa [if_neg (by omega), if_pos rfl] at hs
/-! ### rows of pieces -/
inductive Frags (w : List Int) : List (Int × Int) → List (Nat → Nat → Prop) → List (Int × Int) → List (Int × Int × Int) → Nat → Nat → Prop
  | nil (lo : Nat) : Frags w [] [] [] [] lo lo
  | cons {p M F S lo mid hi ps Ms F' S'} : Frag w F S lo mid p M → Frags w ps Ms F' S' mid hi → Frags w (p :: ps) (M :: Ms) (F ++ F') (S ++ S') lo hi
theorem Frags.bounds {w ps Ms F S lo hi} (h : Frags w ps Ms F S lo hi) : lo ≤ hi ∧ (∀ p ∈ ps, ((lo : Int) ≤ p.1 ∧ p.1 < hi) ∧ (lo : Int) ≤ p.2 ∧ p.2 < hi) ∧ (∀ x ∈ F, ((lo : Int) ≤ x.1 ∧ x.1 < hi) ∧ (lo : Int) ≤ x.2 ∧ x.2 < hi) ∧ (∀ x ∈ S, ((lo : Int) ≤ x.1 ∧ x.1 < hi) ∧ (lo : Int) ≤ x.2.1 ∧ x.2.1 < hi) ∧ ps.length = Ms.length := by
  induction h with
  | nil lo => exact ⟨Nat.le_refl _, by simp, by simp, by simp, rfl⟩
  | cons h1 _ ih =>
    obtain ⟨i1, i2, i3, i4, i5⟩ := ih
    have := h1.s
    have := h1.e
    refine ⟨by omega, ?_, ?_, ?_, by rw [List.length_cons, List.length_cons, i5]⟩
    · intro x hx
      rcases List.mem_cons.1 hx with rfl | hx
      · omega
      · have := i2 x hx; omega
    · intro x hx
      rcases List.mem_append.1 hx with hx | hx
      · have := h1.fin x hx; omega
      · have := i3 x hx; omega
    · intro x hx
      rcases List.mem_append.1 hx with hx | hx
      · have := h1.sin x hx; omega
      · have := i4 x hx; omega
def joinM : List (Nat → Nat → Prop) → Nat → Nat → Prop
  | [] => fun i j => i = j
  | M :: Ms => fun i j => ∃ k, M i k ∧ joinM Ms k j
theorem Frags.join {w ps Ms F S lo hi} (h : Frags w ps Ms F S lo hi) (hne : ps ≠ []) : Frag w (F ++ links ps) S lo hi ((ps.headD (0, 0)).1, (ps.getLastD (0, 0)).2) (joinM Ms) := by
  induction h with
  | nil lo => exact absurd rfl hne
  | cons h1 h2 ih =>
    rename_i p M F S lo mid hi ps Ms F' S'
    cases h2 with
    | nil lo =>
      refine h1.congr (fun x => by simp [links]) (fun x => by simp) (fun i j => ?_)
      constructor
      · rintro ⟨k, g1, g2⟩
        obtain rfl : k = j := g2
        exact g1
      · exact fun g => ⟨j, g, rfl⟩
    | cons h3 h4 =>
      rename_i q M2 F2 S2 mid2 qs Ms2 F3 S3
      have ih := ih (by simp)
      have := h1.seq ih
      refine this.congr (fun x => ?_) (fun x => by simp) (fun i j => Iff.rfl)
      simp [links]
      constructor
      · rintro (g | g | g | g | g) <;> simp [g]
      · rintro (g | g | g | g | g) <;> simp [g]
/-! ### one of them -/
def unionL (s e : Int) (ps : List (Int × Int)) : List (Int × Int) := ps.flatMap fun p => [(s, p.1), (p.2, e)]
theorem Frags.unionSem {w ps Ms F S lo hi} (h : Frags w ps Ms F S lo hi) (s e : Int) (hs : s < lo ∨ (hi : Int) ≤ s) (he : e < lo ∨ (hi : Int) ≤ e) (hse : s ≠ e) :
    ∃ Sem : Int → Nat → Nat → Prop, (∀ i j, Sem s i j ↔ i = j) ∧ Closed w (F ++ unionL s e ps) S Sem ∧ ∀ i j, Sem e i j → ∃ M ∈ Ms, M i j := by
  induction h with
  | nil lo =>
    refine ⟨fun x i j => x = s ∧ i = j, fun i j => by simp, ⟨fun x hx => ?_, fun x hx => ?_⟩, ?_⟩
    · simp [unionL] at hx
    · simp at hx
    · rintro i j ⟨e1, _⟩
      exact absurd e1.symm hse
  | cons h1 h2 ih =>
    rename_i p M F S lo mid hi ps Ms F' S'
    have hb := h2.bounds
    obtain ⟨a1, a2, a3, a4, a5, Sem1, a6, a7, a8⟩ := h1
    obtain ⟨Sem2, b6, b7, b8⟩ := ih (by omega) (by omega)
    refine ⟨fun x i j => if (lo : Int) ≤ x ∧ x < mid then Sem1 x i j else if x = e then (Sem2 e i j ∨ M i j) else Sem2 x i j, fun i j => ?_, ⟨?_, ?_⟩, ?_⟩
    · dsimp only; rw [if_neg (by omega), if_neg hse]; exact b6 i j
    · intro x hx i j hs'
      (try dsimp only at hs' ⊢)
      have hcases : x ∈ F ∨ x ∈ F' ∨ x = (s, p.1) ∨ x = (p.2, e) ∨ x ∈ unionL s e ps := by
        simp only [unionL, List.flatMap_cons, List.mem_append, List.mem_cons, List.not_mem_nil, or_false] at hx ⊢
        rcases hx with (g | g) | ((g | g) | g) <;> simp [g]
      rcases hcases with hx | hx | rfl | rfl | hx
      · have := a3 x hx
        rw [if_pos (by omega)] at hs' ⊢
        exact a7.1 x hx i j hs'
      · have := hb.2.2.1 x hx
        rw [if_neg (by omega), if_neg (by omega)] at hs' ⊢
        exact b7.1 x (List.mem_append_left _ hx) i j hs'
      · (try dsimp only at hs' ⊢)
        rw [if_neg (by omega), if_neg hse, b6] at hs'
        subst hs'
        rw [if_pos (by omega)]
        exact a6 i
      · (try dsimp only at hs' ⊢)
        rw [if_pos (by omega)] at hs'
        rw [if_neg (by omega), if_pos rfl]
        exact .inr (a8 i j hs')
      · obtain ⟨q, hq, hx'⟩ := List.mem_flatMap.1 hx
        have := hb.2.1 q hq
        have hx2 : x = (s, q.1) ∨ x = (q.2, e) := by simpa using hx'
        rcases hx2 with rfl | rfl
        · (try dsimp only at hs' ⊢)
          rw [if_neg (by omega), if_neg hse] at hs'
          rw [if_neg (by omega), if_neg (by omega)]
          exact b7.1 _ (List.mem_append_right _ hx) i j hs'
        · (try dsimp only at hs' ⊢)
          rw [if_neg (by omega), if_neg (by omega)] at hs'
          rw [if_neg (by omega), if_pos rfl]
          exact .inl (b7.1 _ (List.mem_append_right _ hx) i j hs')
    · intro x hx i j hl hok hs'
      (try dsimp only at hs' ⊢)
      rcases List.mem_append.1 hx with hx | hx
      · have := a4 x hx
        rw [if_pos (by omega)] at hs' ⊢
        exact a7.2 x hx i j hl hok hs'
      · have := hb.2.2.2.1 x hx
        rw [if_neg (by omega), if_neg (by omega)] at hs' ⊢
        exact b7.2 x hx i j hl hok hs'
    · intro i j hs'
      (try dsimp only at hs')
      rw [if_neg (by omega), if_pos rfl] at hs'
      rcases hs' with g | g
      · obtain ⟨M', g1, g2⟩ := b8 i j g
        exact ⟨M', List.mem_cons_of_mem _ g1, g2⟩
      · exact ⟨M, List.mem_cons_self, g⟩
theorem Frags.unionComp {w ps Ms F S lo hi} (h : Frags w ps Ms F S lo hi) (s e : Int) : ∀ i j, (∃ M ∈ Ms, M i j) → Rea w (F ++ unionL s e ps) S s i e j := by
  induction h with
  | nil lo => rintro i j ⟨M, hM, _⟩; cases hM
  | cons h1 h2 ih =>
    rename_i p M F S lo mid hi ps Ms F' S'
    rintro i j ⟨M', hM, hm⟩
    rcases List.mem_cons.1 hM with rfl | hM
    · have e1 : (s, p.1) ∈ F ++ F' ++ unionL s e (p :: ps) := by simp [unionL]
      have e2 : (p.2, e) ∈ F ++ F' ++ unionL s e (p :: ps) := by simp [unionL]
      exact ((Rea.one e1).trans ((h1.comp i j hm).mono (fun x hx => by simp [hx]) (fun x hx => by simp [hx]))).trans (Rea.one e2)
    · exact (ih i j ⟨M', hM, hm⟩).mono (fun x hx => by
        rcases List.mem_append.1 hx with hx | hx
        · simp [hx]
        · have : x ∈ unionL s e (p :: ps) := by simp only [unionL, List.flatMap_cons, List.mem_append]; exact .inr hx
          simp [this]) (fun x hx => by simp [hx])
theorem Frags.union {w ps Ms F S n hi} (h : Frags w ps Ms F S (n + 1) hi) : Frag w (F ++ unionL n hi ps) S n (hi + 1) (n, hi) (fun i j => ∃ M ∈ Ms, M i j) := by
  have hb := h.bounds
  obtain ⟨Sem, s1, s2, s3⟩ := h.unionSem n hi (by omega) (by omega) (by omega)
  refine ⟨⟨Int.le_refl _, by show (n : Int) < ((hi + 1 : Nat) : Int); omega⟩, ⟨by show (n : Int) ≤ (hi : Int); omega, by show (hi : Int) < ((hi + 1 : Nat) : Int); omega⟩, ?_, fun x hx => by have := hb.2.2.2.1 x hx; omega, h.unionComp n hi, Sem, fun i => (s1 i i).2 rfl, s2, s3⟩
  intro x hx
  rcases List.mem_append.1 hx with hx | hx
  · have := hb.2.2.1 x hx; omega
  · obtain ⟨q, hq, hx'⟩ := List.mem_flatMap.1 hx
    have := hb.2.1 q hq
    have hx2 : x = ((n : Int), q.1) ∨ x = (q.2, (hi : Int)) := by simpa using hx'
    rcases hx2 with rfl | rfl <;> dsimp only <;> omega
/-! ### so many times -/
theorem rLinks_in (b e : Int) : ∀ (t : Nat) (ps : List (Int × Int)) (x : Int × Int), x ∈ rLinks b e t ps → (∃ r ∈ ps, x.1 = r.2) ∧ (x.2 = e ∨ ∃ r ∈ ps, x.2 = r.1)
  | _, [], x, h => by simp [rLinks] at h
  | _, [p], x, h => by
    have : x = (p.2, e) := by simpa [rLinks] using h
    rw [this]
    exact ⟨⟨p, by simp, rfl⟩, .inl rfl⟩
  | t, p :: q :: l, x, h => by
    simp only [rLinks, List.mem_append, List.mem_cons] at h
    rcases h with g | g | g
    · split at g
      · have : x = (p.2, e) := by simpa using g
        rw [this]
        exact ⟨⟨p, by simp, rfl⟩, .inl rfl⟩
      · simp at g
    · rw [g]
      exact ⟨⟨p, by simp, rfl⟩, .inr ⟨q, by simp, rfl⟩⟩
    · obtain ⟨⟨r, h1, h2⟩, h3⟩ := rLinks_in b e (t + 1) (q :: l) x g
      refine ⟨⟨r, List.mem_cons_of_mem _ h1, h2⟩, ?_⟩
      rcases h3 with h3 | ⟨r', h4, h5⟩
      · exact .inl h3
      · exact .inr ⟨r', List.mem_cons_of_mem _ h4, h5⟩
theorem Frags.repSem {w ps Ms F S lo hi} (h : Frags w ps Ms F S lo hi) (M : Nat → Nat → Prop) (hM : ∀ M' ∈ Ms, M' = M) (hne : ps ≠ []) (b : Int) (e : Int) (he : e < lo ∨ (hi : Int) ≤ e) : ∀ t : Nat,
    ∃ Sem : Int → Nat → Nat → Prop, (∀ i, Sem (ps.headD (0, 0)).1 i i) ∧ Closed w (F ++ rLinks b e t ps) S Sem ∧ ∀ i j, Sem e i j → ∃ c, 1 ≤ c ∧ c ≤ ps.length ∧ (b ≤ (t + c : Nat) ∨ c = ps.length) ∧ Iter M c i j := by
  induction h with
  | nil lo => exact absurd rfl hne
  | cons h1 h2 ih =>
    rename_i p M0 F S lo mid hi ps Ms F' S'
    obtain rfl : M0 = M := hM M0 List.mem_cons_self
    have hb := h2.bounds
    obtain ⟨a1, a2, a3, a4, a5, Sem1, a6, a7, a8⟩ := h1
    intro t
    cases h2 with
    | nil lo =>
      refine ⟨fun x i j => if x = e then M0 i j else Sem1 x i j, fun i => ?_, ⟨?_, ?_⟩, ?_⟩
      · dsimp only [List.headD_cons]; rw [if_neg (by omega)]; exact a6 i
      · intro x hx i j hs'
        (try dsimp only at hs' ⊢)
        have hx2 : x ∈ F ∨ x = (p.2, e) := by simpa [rLinks] using hx
        rcases hx2 with hx | rfl
        · have := a3 x hx
          rw [if_neg (by omega)] at hs' ⊢
          exact a7.1 x hx i j hs'
        · (try dsimp only at hs' ⊢)
          rw [if_neg (by omega)] at hs'
          rw [if_pos rfl]
          exact a8 i j hs'
      · intro x hx i j hl hok hs'
        (try dsimp only at hs' ⊢)
        have hx : x ∈ S := by simpa using hx
        have := a4 x hx
        rw [if_neg (by omega)] at hs' ⊢
        exact a7.2 x hx i j hl hok hs'
      · intro i j hs'
        (try dsimp only at hs')
        rw [if_pos rfl] at hs'
        exact ⟨1, by omega, by simp, .inr (by simp), j, hs', rfl⟩
    | cons h3 h4 =>
      rename_i q M2 F2 S2 mid2 qs Ms2 F3 S3
      obtain ⟨Sem2, b6, b7, b8⟩ := ih (fun M' h' => hM M' (List.mem_cons_of_mem _ h')) (by simp) (by omega) (t + 1)
      have hq := hb.2.1 q List.mem_cons_self
      refine ⟨fun x i j => if (lo : Int) ≤ x ∧ x < mid then Sem1 x i j else if x = e then ((b ≤ (t + 1 : Nat) ∧ M0 i j) ∨ ∃ k, M0 i k ∧ Sem2 e k j) else ∃ k, M0 i k ∧ Sem2 x k j, fun i => ?_, ⟨?_, ?_⟩, ?_⟩
      · dsimp only [List.headD_cons]; rw [if_pos (by omega)]; exact a6 i
      · intro x hx i j hs'
        (try dsimp only at hs' ⊢)
        have hcases : x ∈ F ∨ (x ∈ F2 ++ F3) ∨ (b ≤ (t + 1 : Nat) ∧ x = (p.2, e)) ∨ x = (p.2, q.1) ∨ x ∈ rLinks b e (t + 1) (q :: qs) := by
          simp only [rLinks, List.mem_append, List.mem_cons] at hx ⊢
          rcases hx with (g | g) | (g | (g | g))
          · exact .inl g
          · exact .inr (.inl g)
          · split at g
            · rename_i hc
              exact .inr (.inr (.inl ⟨by omega, by simpa using g⟩))
            · simp at g
          · exact .inr (.inr (.inr (.inl g)))
          · exact .inr (.inr (.inr (.inr g)))
        rcases hcases with hx | hx | ⟨hc, rfl⟩ | rfl | hx
        · have := a3 x hx
          rw [if_pos (by omega)] at hs' ⊢
          exact a7.1 x hx i j hs'
        · have := hb.2.2.1 x hx
          rw [if_neg (by omega), if_neg (by omega)] at hs' ⊢
          obtain ⟨k, g1, g2⟩ := hs'
          exact ⟨k, g1, b7.1 x (List.mem_append_left _ hx) k j g2⟩
        · (try dsimp only at hs' ⊢)
          rw [if_pos (by omega)] at hs'
          rw [if_neg (by omega), if_pos rfl]
          exact .inl ⟨hc, a8 i j hs'⟩
        · (try dsimp only at hs' ⊢)
          rw [if_pos (by omega)] at hs'
          rw [if_neg (by omega), if_neg (by omega)]
          exact ⟨j, a8 i j hs', b6 j⟩
        · have hin := rLinks_in b e (t + 1) (q :: qs) x hx
          have hp1 : ∃ r ∈ q :: qs, x.1 = r.2 := hin.1
          obtain ⟨r, hr, hr1⟩ := hp1
          have := hb.2.1 r hr
          rw [if_neg (by omega), if_neg (by omega)] at hs'
          obtain ⟨k, g1, g2⟩ := hs'
          have g3 := b7.1 x (List.mem_append_right _ hx) k j g2
          rcases hin.2 with h5 | ⟨r', hr', h5⟩
          · rw [if_neg (by omega), if_pos h5]
            rw [h5] at g3
            exact .inr ⟨k, g1, g3⟩
          · have := hb.2.1 r' hr'
            rw [if_neg (by omega), if_neg (by omega)]
            exact ⟨k, g1, g3⟩
      · intro x hx i j hl hok hs'
        (try dsimp only at hs' ⊢)
        rcases List.mem_append.1 hx with hx | hx
        · have := a4 x hx
          rw [if_pos (by omega)] at hs' ⊢
          exact a7.2 x hx i j hl hok hs'
        · have := hb.2.2.2.1 x hx
          rw [if_neg (by omega), if_neg (by omega)] at hs' ⊢
          obtain ⟨k, g1, g2⟩ := hs'
          exact ⟨k, g1, b7.2 x hx k j hl hok g2⟩
      · intro i j hs'
        (try dsimp only at hs')
        rw [if_neg (by omega), if_pos rfl] at hs'
        rcases hs' with ⟨g1, g2⟩ | ⟨k, g1, g2⟩
        · exact ⟨1, by omega, by simp, .inl g1, j, g2, rfl⟩
        · obtain ⟨c, c1, c2, c3, c4⟩ := b8 k j g2
          refine ⟨c + 1, by omega, by rw [List.length_cons]; omega, ?_, k, g1, c4⟩
          rcases c3 with c3 | c3
          · left
            have : t + (c + 1) = t + 1 + c := by omega
            rw [this]; exact c3
          · right; rw [List.length_cons, c3]
end Go.Proofs.YthhfjjnhkifbfaaDoor.A
/- What is built of an expression takes just its language. -/
namespace Go.Proofs.YthhfjjnhkifbfaaDoor.A
open Go
set_option maxRecDepth 20000
theorem Frags.repComp {w ps Ms F S lo hi} (h : Frags w ps Ms F S lo hi) (M : Nat → Nat → Prop) (hM : ∀ M' ∈ Ms, M' = M) (b e : Int) : ∀ (t c i j : Nat), 1 ≤ c → c ≤ ps.length → (b ≤ (t + c : Nat) ∨ c = ps.length) → Iter M c i j → Rea w (F ++ rLinks b e t ps) S (ps.headD (0, 0)).1 i e j := by
  induction h with
  | nil lo => intro t c i j h1 h2; simp at h2; omega
  | cons h1 h2 ih =>
    rename_i p M0 F S lo mid hi ps Ms F' S'
    obtain rfl : M0 = M := hM M0 List.mem_cons_self
    intro t c i j c1 c2 c3 hit
    obtain ⟨c', rfl⟩ : ∃ c', c = c' + 1 := ⟨c - 1, by omega⟩
    obtain ⟨k, m1, m2⟩ := hit
    have hmono : ∀ x, x ∈ F → x ∈ F ++ F' ++ rLinks b e t (p :: ps) := fun x hx => by simp [hx]
    have hp := (h1.comp i k m1).mono hmono (fun x hx => show x ∈ S ++ S' by simp [hx])
    rw [List.headD_cons]
    cases c' with
    | zero =>
      obtain rfl : k = j := m2
      refine hp.trans (Rea.one (List.mem_append_right _ ?_))
      cases ps with
      | nil => simp [rLinks]
      | cons q qs =>
        have : b ≤ (t + 1 : Nat) := by
          rcases c3 with c3 | c3
          · exact c3
          · simp at c3
        simp only [rLinks, List.mem_append]
        left
        rw [if_pos (by omega)]
        simp
    | succ c' =>
      cases h2 with
      | nil lo => simp at c2
      | cons h3 h4 =>
        rename_i q M2 F2 S2 mid2 qs Ms2 F3 S3
        have hr := ih (fun M' h' => hM M' (List.mem_cons_of_mem _ h')) (t + 1) (c' + 1) k j (by omega) (by rw [List.length_cons] at c2; omega) (by
          rcases c3 with c3 | c3
          · left
            have : t + 1 + (c' + 1) = t + (c' + 1 + 1) := by omega
            rw [this]; exact c3
          · right; rw [List.length_cons] at c3; omega) m2
        have hl : (p.2, q.1) ∈ F ++ (F2 ++ F3) ++ rLinks b e t (p :: q :: qs) := List.mem_append_right _ (by simp [rLinks])
        refine (hp.trans (Rea.one hl)).trans (hr.mono (fun x hx => ?_) (fun x hx => by simp at hx ⊢; exact .inr hx))
        rcases List.mem_append.1 hx with hx | hx
        · exact List.mem_append_left _ (List.mem_append_right _ hx)
        · exact List.mem_append_right _ (by simp only [rLinks, List.mem_append, List.mem_cons]; exact .inr (.inr hx))
theorem headL_mem (n : Int) (ps : List (Int × Int)) (x : Int × Int) : x ∈ headL n ps ↔ ps ≠ [] ∧ x = (n, (ps.headD (0, 0)).1) := by
  cases ps with
  | nil => simp [headL]
  | cons p ps => simp [headL]
theorem Frags.repeat {w ps Ms F S n e} (h : Frags w ps Ms F S (n + 1) e) (M : Nat → Nat → Prop) (hM : ∀ M' ∈ Ms, M' = M) (b : Int) (hb0 : 0 ≤ b) (hb1 : b ≤ ps.length) :
    Frag w (F ++ (headL n ps ++ rLinks b e 0 ps ++ (if b = 0 then [((n : Int), (e : Int))] else []))) S n (e + 1) (n, e) (fun i j => ∃ m : Nat, b ≤ m ∧ m ≤ ps.length ∧ Iter M m i j) := by
  have hbd := h.bounds
  have hmem : ∀ x, x ∈ F ++ (headL n ps ++ rLinks b e 0 ps ++ (if b = 0 then [((n : Int), (e : Int))] else [])) ↔ x ∈ F ∨ (ps ≠ [] ∧ x = ((n : Int), (ps.headD (0, 0)).1)) ∨ x ∈ rLinks b e 0 ps ∨ (b = 0 ∧ x = ((n : Int), (e : Int))) := by
    intro x
    rw [List.mem_append, List.mem_append, List.mem_append, headL_mem, or_assoc]
    split
    · rename_i hb; simp [hb]
    · rename_i hb; simp [hb]
  have hhead : ps ≠ [] → ((n + 1 : Nat) : Int) ≤ (ps.headD (0, 0)).1 ∧ (ps.headD (0, 0)).1 < e := fun hne => by
    cases ps with
    | nil => exact absurd rfl hne
    | cons p ps => exact (hbd.2.1 p List.mem_cons_self).1
  generalize F ++ (headL n ps ++ rLinks b e 0 ps ++ (if b = 0 then [((n : Int), (e : Int))] else [])) = L at *
  have hsem : ∃ Sem : Int → Nat → Nat → Prop, (ps ≠ [] → ∀ i, Sem (ps.headD (0, 0)).1 i i) ∧ Closed w (F ++ rLinks b e 0 ps) S Sem ∧ ∀ i j, Sem e i j → ∃ c, 1 ≤ c ∧ c ≤ ps.length ∧ (b ≤ (0 + c : Nat) ∨ c = ps.length) ∧ Iter M c i j := by
    by_cases hne : ps = []
    · refine ⟨fun _ _ _ => False, fun h' => absurd hne h', ⟨fun x hx i j h' => h'.elim, fun x hx i j _ _ h' => h'.elim⟩, fun i j h' => h'.elim⟩
    · obtain ⟨Sem, s1, s2, s3⟩ := h.repSem M hM hne b e (by omega) 0
      exact ⟨Sem, fun _ => s1, s2, s3⟩
  obtain ⟨Sem, s1, s2, s3⟩ := hsem
  refine ⟨⟨Int.le_refl _, by show (n : Int) < ((e + 1 : Nat) : Int); omega⟩, ⟨by show (n : Int) ≤ (e : Int); omega, by show (e : Int) < ((e + 1 : Nat) : Int); omega⟩, ?_, fun x hx => by have := hbd.2.2.2.1 x hx; omega, ?_, ?_⟩
  · intro x hx
    rcases (hmem x).1 hx with hx | ⟨hne, rfl⟩ | hx | ⟨_, rfl⟩
    · have := hbd.2.2.1 x hx; omega
    · have := hhead hne
      dsimp only; omega
    · obtain ⟨⟨r, r1, r2⟩, r3⟩ := rLinks_in b e 0 ps x hx
      have := hbd.2.1 r r1
      rcases r3 with r3 | ⟨r', r4, r5⟩
      · omega
      · have := hbd.2.1 r' r4
        omega
    · dsimp only; omega
  · rintro i j ⟨m, m1, m2, m3⟩
    cases m with
    | zero =>
      obtain rfl : i = j := m3
      exact Rea.one ((hmem _).2 (.inr (.inr (.inr ⟨by omega, rfl⟩))))
    | succ m =>
      have hne : ps ≠ [] := fun e' => by rw [e'] at m2; simp at m2
      refine (Rea.one ((hmem _).2 (.inr (.inl ⟨hne, rfl⟩)))).trans ((h.repComp M hM b e 0 (m + 1) i j (by omega) m2 (.inl (by omega)) m3).mono (fun x hx => (hmem x).2 ?_) (fun x hx => hx))
      rcases List.mem_append.1 hx with hx | hx
      · exact .inl hx
      · exact .inr (.inr (.inl hx))
  · refine ⟨fun x i j => if x = (n : Int) then i = j else if x = (e : Int) then ((b = 0 ∧ i = j) ∨ Sem e i j) else Sem x i j, fun i => by dsimp only; rw [if_pos rfl], ⟨?_, ?_⟩, ?_⟩
    · intro x hx i j hs
      (try dsimp only at hs ⊢)
      rcases (hmem x).1 hx with hx | ⟨hne, rfl⟩ | hx | ⟨hb, rfl⟩
      · have := hbd.2.2.1 x hx
        rw [if_neg (by omega), if_neg (by omega)] at hs ⊢
        exact s2.1 x (List.mem_append_left _ hx) i j hs
      · have := hhead hne
        (try dsimp only at hs ⊢)
        rw [if_pos rfl] at hs
        subst hs
        rw [if_neg (by omega), if_neg (by omega)]
        exact s1 hne i
      · obtain ⟨⟨r, r1, r2⟩, r3⟩ := rLinks_in b e 0 ps x hx
        have := hbd.2.1 r r1
        rw [if_neg (by omega), if_neg (by omega)] at hs
        have g := s2.1 x (List.mem_append_right _ hx) i j hs
        rcases r3 with r3 | ⟨r', r4, r5⟩
        · rw [if_neg (by omega), if_pos r3]
          rw [r3] at g
          exact .inr g
        · have := hbd.2.1 r' r4
          rw [if_neg (by omega), if_neg (by omega)]
          exact g
      · (try dsimp only at hs ⊢)
        rw [if_pos rfl] at hs
        rw [if_neg (by omega), if_pos rfl]
        exact .inl ⟨hb, hs⟩
    · intro x hx i j hl hok hs
      (try dsimp only at hs ⊢)
      have := hbd.2.2.2.1 x hx
      rw [if_neg (by omega), if_neg (by omega)] at hs ⊢
      exact s2.2 x hx i j hl hok hs
    · intro i j hs
      (try dsimp only at hs)
      rw [if_neg (by omega), if_pos rfl] at hs
      rcases hs with ⟨g1, g2⟩ | g
      · exact ⟨0, by omega, by omega, g2⟩
      · obtain ⟨c, c1, c2, c3, c4⟩ := s3 i j g
        refine ⟨c, ?_, c2, c4⟩
        rcases c3 with c3 | c3
        · rw [Nat.zero_add] at c3; exact c3
        · rw [c3]; exact hb1
/-! ### what is built -/
def Built (w : List Int) (f : BF) (M : Nat → Nat → Prop) : Prop := ∀ b : BS, b.n ≤ (f b).2.n ∧ ((f b).2.n ≤ 1000 → ∃ F S, (f b).2.f = b.f ++ F ∧ (f b).2.s = b.s ++ S ∧ Frag w F S b.n (f b).2.n (f b).1 M)
inductive Builts (w : List Int) : List BF → List (Nat → Nat → Prop) → Prop
  | nil : Builts w [] []
  | cons {f M fs Ms} : Built w f M → Builts w fs Ms → Builts w (f :: fs) (M :: Ms)
theorem bParts_built {w fs Ms} (h : Builts w fs Ms) : ∀ (b : BS) (out : List (Int × Int)), b.n ≤ (bParts fs b out).2.n ∧ ((bParts fs b out).2.n ≤ 1000 → ∃ ps F S, (bParts fs b out).1 = out ++ ps ∧ (bParts fs b out).2.f = b.f ++ F ∧ (bParts fs b out).2.s = b.s ++ S ∧ Frags w ps Ms F S b.n (bParts fs b out).2.n ∧ ps.length = fs.length) := by
  induction h with
  | nil =>
    intro b out
    rw [bParts]
    exact ⟨Nat.le_refl _, fun _ => ⟨[], [], [], by simp, by simp, by simp, .nil _, rfl⟩⟩
  | cons h1 h1' ih =>
    rename_i f M fs Ms
    intro b out
    rw [bParts]
    split
    · exact ⟨Nat.le_refl _, fun h => absurd h (by dsimp only; omega)⟩
    · obtain ⟨n1, g1⟩ := h1 b
      obtain ⟨n2, g2⟩ := ih (f b).2 (out ++ [(f b).1])
      refine ⟨by omega, fun hle => ?_⟩
      obtain ⟨F, S, e1, e2, e3⟩ := g1 (by omega)
      obtain ⟨ps, F', S', e4, e5, e6, e7, e8⟩ := g2 hle
      exact ⟨(f b).1 :: ps, F ++ F', S ++ S', by rw [e4]; simp, by rw [e5, e1]; simp, by rw [e6, e2]; simp, .cons e3 e7, by simp [e8]⟩
theorem builts_length {w fs Ms} (h : Builts w fs Ms) : fs.length = Ms.length := by
  induction h with
  | nil => rfl
  | cons _ _ ih => simp [ih]
theorem bJoin_built {w fs Ms} (h : Builts w fs Ms) (hne : fs ≠ []) : Built w (bJoin fs) (joinM Ms) := by
  intro b
  obtain ⟨n1, g1⟩ := bParts_built h b []
  unfold bJoin
  dsimp only
  split
  · rename_i hc
    refine ⟨n1, fun hle => ?_⟩
    obtain ⟨ps, F, S, e1, _, _, _, e5⟩ := g1 hle
    rcases hc with hc | hc
    · dsimp only at hle; omega
    · rw [e1] at hc
      simp at hc
      rw [hc] at e5
      exact absurd (List.length_eq_zero_iff.1 e5.symm) hne
  · rename_i hc
    refine ⟨n1, fun hle => ?_⟩
    obtain ⟨ps, F, S, e1, e2, e3, e4, e5⟩ := g1 hle
    have hps : ps ≠ [] := fun e => by
      rw [e] at e5
      exact hne (List.length_eq_zero_iff.1 e5.symm)
    rw [List.nil_append] at e1
    exact ⟨F ++ links ps, S, by rw [e1]; show (bParts fs b []).2.f ++ _ = _; rw [e2]; simp, e3, by rw [e1]; exact e4.join hps⟩
theorem bUnion_built {w fs Ms} (h : Builts w fs Ms) : Built w (bUnion fs) (fun i j => ∃ M ∈ Ms, M i j) := by
  intro b
  obtain ⟨n1, g1⟩ := bParts_built h b.state []
  have hs : b.state.n = b.n + 1 := rfl
  refine ⟨by show b.n ≤ (bParts fs b.state []).2.n + 1; omega, fun hle => ?_⟩
  have hle : (bParts fs b.state []).2.n + 1 ≤ 1000 := hle
  obtain ⟨ps, F, S, e1, e2, e3, e4, e5⟩ := g1 (by omega)
  rw [List.nil_append] at e1
  refine ⟨F ++ unionL b.n (bParts fs b.state []).2.n ps, S, ?_, e3, ?_⟩
  · show (bParts fs b.state []).2.f ++ _ = _
    rw [e2, e1, List.append_assoc]
    rfl
  · exact e4.union
theorem bOnce_built {w f M} (h : Built w f M) (around back : Bool) : Built w (bOnce f around back) (onceM around back M) := by
  intro b
  obtain ⟨n1, g1⟩ := h b.state
  have hs : b.state.n = b.n + 1 := rfl
  refine ⟨by show b.n ≤ (f b.state).2.n + 1; omega, fun hle => ?_⟩
  have hle : (f b.state).2.n + 1 ≤ 1000 := hle
  obtain ⟨F, S, e1, e2, e3⟩ := g1 (by omega)
  have := e3.once around back
  exact ⟨_, S, by show (f b.state).2.f ++ _ = _; rw [e1, List.append_assoc]; rfl, e2, this⟩
theorem builts_rep {w f M} (h : Built w f M) : ∀ n, Builts w (List.replicate n f) (List.replicate n M)
  | 0 => .nil
  | n + 1 => .cons h (builts_rep h n)
theorem bRepeat_built {w f M} (h : Built w f M) (b0 : Int) (hi : Nat) (h0 : 0 ≤ b0) (h1 : b0 ≤ hi) : Built w (bRepeat b0 hi f) (fun i j => ∃ m : Nat, b0 ≤ m ∧ m ≤ hi ∧ Iter M m i j) := by
  intro b
  obtain ⟨n1, g1⟩ := bParts_built (builts_rep h hi) b.state []
  have hs : b.state.n = b.n + 1 := rfl
  have hst : (bParts (List.replicate hi f) b.state []).2.state.n = (bParts (List.replicate hi f) b.state []).2.n + 1 := rfl
  unfold bRepeat
  dsimp only
  split
  · rename_i hc
    exact ⟨by dsimp only; omega, fun hle => absurd hle (by dsimp only; omega)⟩
  · rename_i hc
    refine ⟨by show b.n ≤ (bParts (List.replicate hi f) b.state []).2.n + 1; omega, fun hle => ?_⟩
    obtain ⟨ps, F, S, e1, e2, e3, e4, e5⟩ := g1 (by omega)
    rw [List.nil_append] at e1
    rw [List.length_replicate] at e5
    have := e4.repeat M (fun M' h' => (List.mem_replicate.1 h').2) b0 h0 (by omega)
    refine ⟨F ++ (headL b.n ps ++ rLinks b0 (bParts (List.replicate hi f) b.state []).2.n 0 ps ++ (if b0 = 0 then [((b.n : Int), ((bParts (List.replicate hi f) b.state []).2.n : Int))] else [])), S, ?_, e3, ?_⟩
    · show (bParts (List.replicate hi f) b.state []).2.f ++ _ = _
      rw [e2, e1, List.append_assoc]
      rfl
    · rw [e5] at this
      exact this
theorem bLeaf_built (w : List Int) (k s : Int) : Built w (bLeaf k s) (fun i j => if k = 1 then j = i + 1 ∧ i < w.length ∧ stepOk s (w.getD i 0) = true else if k = 3 then i = j else False) := by
  intro b
  unfold bLeaf
  have hb : b.state.state.n = b.n + 2 := rfl
  by_cases h1 : k = 1
  · subst h1
    refine ⟨by show b.n ≤ b.n + 2; omega, fun _ => ⟨[], [((b.n : Int), (b.n : Int) + 1, s)], by show b.f = b.f ++ []; simp, rfl, ?_⟩⟩
    refine ⟨?_, ?_, by simp, ?_, ?_, fun x i j => (x = (b.n : Int) ∧ i = j) ∨ (x = (b.n : Int) + 1 ∧ (j = i + 1 ∧ i < w.length ∧ stepOk s (w.getD i 0) = true)), fun i => .inl ⟨rfl, rfl⟩, ⟨by simp, ?_⟩, ?_⟩
    · show (b.n : Int) ≤ (b.n : Int) ∧ (b.n : Int) < ((b.n + 2 : Nat) : Int); omega
    · show (b.n : Int) ≤ (b.n : Int) + 1 ∧ (b.n : Int) + 1 < ((b.n + 2 : Nat) : Int); omega
    · intro x hx
      rw [List.mem_singleton.1 hx]
      show ((b.n : Int) ≤ (b.n : Int) ∧ (b.n : Int) < ((b.n + 2 : Nat) : Int)) ∧ (b.n : Int) ≤ (b.n : Int) + 1 ∧ (b.n : Int) + 1 < ((b.n + 2 : Nat) : Int)
      omega
    · intro i j hm
      rw [if_pos rfl] at hm
      obtain ⟨rfl, m2, m3⟩ := hm
      exact .step (x := ((b.n : Int), (b.n : Int) + 1, s)) .refl (by simp) m2 m3
    · intro x hx i j hl hok hs
      obtain rfl := List.mem_singleton.1 hx
      (try dsimp only at hs hok ⊢)
      rcases hs with ⟨_, rfl⟩ | ⟨g, _⟩
      · exact .inr ⟨rfl, rfl, hl, hok⟩
      · omega
    · intro i j hs
      rw [if_pos rfl]
      rcases hs with ⟨g, _⟩ | ⟨_, g⟩
      · have g : (b.n : Int) + 1 = b.n := g
        omega
      · exact g
  · by_cases h3 : k = 3
    · subst h3
      refine ⟨by show b.n ≤ b.n + 2; omega, fun _ => ⟨[((b.n : Int), (b.n : Int) + 1)], [], rfl, by show b.s = b.s ++ []; simp, ?_⟩⟩
      refine ⟨?_, ?_, ?_, by simp, ?_, fun x i j => i = j, fun i => rfl, ⟨fun x hx i j h => h, by simp⟩, ?_⟩
      · show (b.n : Int) ≤ (b.n : Int) ∧ (b.n : Int) < ((b.n + 2 : Nat) : Int); omega
      · show (b.n : Int) ≤ (b.n : Int) + 1 ∧ (b.n : Int) + 1 < ((b.n + 2 : Nat) : Int); omega
      · intro x hx
        rw [List.mem_singleton.1 hx]
        show ((b.n : Int) ≤ (b.n : Int) ∧ (b.n : Int) < ((b.n + 2 : Nat) : Int)) ∧ (b.n : Int) ≤ (b.n : Int) + 1 ∧ (b.n : Int) + 1 < ((b.n + 2 : Nat) : Int)
        omega
      · intro i j hm
        rw [if_neg (by decide), if_pos rfl] at hm
        subst hm
        exact Rea.one (by simp)
      · intro i j hs
        rw [if_neg (by decide), if_pos rfl]
        exact hs
    · refine ⟨by rw [if_neg h1, if_neg h3]; show b.n ≤ b.n + 2; omega, fun _ => ⟨[], [], by rw [if_neg h1, if_neg h3]; show b.f = _; simp, by rw [if_neg h1, if_neg h3]; show b.s = _; simp, ?_⟩⟩
      rw [if_neg h1, if_neg h3]
      refine ⟨?_, ?_, by simp, by simp, ?_, fun x i j => x = (b.n : Int) ∧ i = j, fun i => ⟨rfl, rfl⟩, ⟨by simp, by simp⟩, ?_⟩
      · show (b.n : Int) ≤ (b.n : Int) ∧ (b.n : Int) < ((b.n + 2 : Nat) : Int); omega
      · show (b.n : Int) ≤ (b.n : Int) + 1 ∧ (b.n : Int) + 1 < ((b.n + 2 : Nat) : Int); omega
      · intro i j hm
        rw [if_neg h1, if_neg h3] at hm
        exact hm.elim
      · rintro i j ⟨g, _⟩
        have g : (b.n : Int) + 1 = b.n := g
        omega
theorem Built.congr {w f M M'} (h : Built w f M) (hM : ∀ i j, M' i j ↔ M i j) : Built w f M' := fun b => ⟨(h b).1, fun hle => by
  obtain ⟨F, S, e1, e2, e3⟩ := (h b).2 hle
  exact ⟨F, S, e1, e2, e3.congr (fun _ => Iff.rfl) (fun _ => Iff.rfl) hM⟩⟩
theorem mtJ_join (w : List Int) : ∀ (l : List Nd) (i j : Nat), MtJ w l i j ↔ joinM (l.map (Mt w)) i j
  | [], i, j => by rw [MtJ]; exact Iff.rfl
  | x :: l, i, j => by
    rw [MtJ]
    exact exists_congr fun k => and_congr Iff.rfl (mtJ_join w l k j)
theorem mtU_some (w : List Int) : ∀ (l : List Nd) (i j : Nat), MtU w l i j ↔ ∃ M ∈ l.map (Mt w), M i j
  | [], i, j => by rw [MtU]; simp
  | x :: l, i, j => by
    rw [MtU_cons, mtU_some w l]
    simp
theorem part_built (w : List Int) : ∀ (x : Nd), rightN x = true → Built w (bPart x) (Mt w x)
  | .mk k s lo hi l, hr => by
    obtain ⟨hx, hc⟩ := right_cases hr
    have hkid : ∀ x ∈ l, Built w (bPart x) (Mt w x) := fun x hm => by
      have : SizeOf.sizeOf x < SizeOf.sizeOf (Nd.mk k s lo hi l) := by
        have := List.sizeOf_lt_of_mem hm
        simp only [Nd.mk.sizeOf_spec]
        omega
      exact part_built w x (hx x hm)
    have hall : ∀ l' : List Nd, (∀ x ∈ l', Built w (bPart x) (Mt w x)) → Builts w (bPartL l') (l'.map (Mt w)) := by
      intro l'
      induction l' with
      | nil => intro _; rw [bPartL]; exact .nil
      | cons x l' ih =>
        intro h
        rw [bPartL]
        exact .cons (h x (by simp)) (ih (fun y hy => h y (List.mem_cons_of_mem _ hy)))
    rw [bPart]
    unfold bNode
    rcases hc with ⟨rfl, rfl, rfl, rfl, h0, h1⟩ | ⟨hk, rfl, rfl, rfl, rfl⟩ | ⟨hk, rfl, rfl, rfl, y1, y2, r, rfl⟩ | ⟨hk, rfl, rfl, rfl, x, rfl⟩ | ⟨rfl, rfl, h0, h1, h2, x, rfl⟩
    · refine (bLeaf_built w 1 s).congr (fun i j => ?_)
      rw [Mt_eq, if_pos rfl, if_pos rfl]
    · rcases hk with rfl | rfl
      · refine (bLeaf_built w 2 0).congr (fun i j => ?_)
        rw [Mt_eq]
        simp
      · refine (bLeaf_built w 3 0).congr (fun i j => ?_)
        rw [Mt_eq]
        simp
    · rcases hk with rfl | rfl
      · rw [if_pos rfl]
        refine (bJoin_built (hall _ hkid) (by rw [bPartL]; simp)).congr (fun i j => ?_)
        rw [Mt_eq, if_neg (by decide), if_neg (by decide), if_pos rfl]
        exact mtJ_join w _ i j
      · rw [if_neg (by decide), if_pos rfl]
        refine (bUnion_built (hall _ hkid)).congr (fun i j => ?_)
        rw [Mt_eq, if_neg (by decide), if_neg (by decide), if_neg (by decide), if_pos rfl]
        exact mtU_some w _ i j
    · have hb := hkid x (by simp)
      have hh : (bPartL [x]).headD (fun b => ((0, 0), b)) = bPart x := by rw [bPartL]; rfl
      have hm : MtH w [x] = Mt w x := by rw [MtH]
      rcases hk with rfl | rfl | rfl
      · rw [if_neg (by decide), if_neg (by decide), if_pos rfl, hh]
        refine (bOnce_built hb true true).congr (fun i j => ?_)
        rw [Mt_eq, if_neg (by decide), if_neg (by decide), if_neg (by decide), if_neg (by decide), if_pos rfl, hm]
        simp [onceM]
      · rw [if_neg (by decide), if_neg (by decide), if_neg (by decide), if_pos rfl, hh]
        refine (bOnce_built hb false true).congr (fun i j => ?_)
        rw [Mt_eq, if_neg (by decide), if_neg (by decide), if_neg (by decide), if_neg (by decide), if_neg (by decide), if_pos rfl, hm]
        simp [onceM]
      · rw [if_neg (by decide), if_neg (by decide), if_neg (by decide), if_neg (by decide), if_pos rfl, hh]
        refine (bOnce_built hb true false).congr (fun i j => ?_)
        rw [Mt_eq, if_neg (by decide), if_neg (by decide), if_neg (by decide), if_neg (by decide), if_neg (by decide), if_neg (by decide), if_pos rfl, hm]
        simp [onceM]
    · have hb := hkid x (by simp)
      have hh : (bPartL [x]).headD (fun b => ((0, 0), b)) = bPart x := by rw [bPartL]; rfl
      have hm : MtH w [x] = Mt w x := by rw [MtH]
      rw [if_neg (by decide), if_neg (by decide), if_neg (by decide), if_neg (by decide), if_neg (by decide), if_pos rfl, hh]
      refine (bRepeat_built hb lo hi.toNat h0 (by omega)).congr (fun i j => ?_)
      rw [Mt_eq, if_neg (by decide), if_neg (by decide), if_neg (by decide), if_neg (by decide), if_neg (by decide), if_neg (by decide), if_neg (by decide), if_pos rfl, hm]
      exact exists_congr fun m => and_congr Iff.rfl (and_congr (by omega) Iff.rfl)
termination_by x => SizeOf.sizeOf x
decreasing_by
  exact this
/-! ### its run -/
theorem rowsOf_memN {N : Nat} {fs : List (Int × Int)} (hin : ∀ p ∈ fs, 0 ≤ p.1 ∧ p.1 < (N : Int)) {j : Nat} (hj : j < N) (x : Int) : x ∈ (rowsOf N fs).getD j [] ↔ ((j : Int), x) ∈ fs := by
  have key : ∀ (l : List (Int × Int)) (rows : List (List Int)), rows.length = N → (∀ p ∈ l, 0 ≤ p.1 ∧ p.1 < (N : Int)) → (x ∈ (l.foldl rowAdd rows).getD j [] ↔ x ∈ rows.getD j [] ∨ ((j : Int), x) ∈ l) := fun l => by
    induction l with
    | nil => intro rows _ _; simp
    | cons p l ih =>
      intro rows hl hp
      have hp0 := hp p (List.mem_cons_self ..)
      rw [List.foldl_cons, ih _ (by simpa [rowAdd] using hl) (fun q hq => hp q (List.mem_cons_of_mem _ hq)), rowAdd, getD_set _ _ _ _ _ (by omega), List.mem_cons]
      obtain ⟨f, t⟩ := p
      simp only at hp0 ⊢
      by_cases e : f.toNat = j
      · have : f = (j : Int) := by omega
        subst this
        rw [if_pos e, Int.toNat_natCast, List.mem_append, List.mem_singleton]
        simp only [Prod.mk.injEq, true_and]
        exact or_assoc
      · rw [if_neg e]
        have : ¬ ((j : Int), x) = (f, t) := fun h => by injection h with h _; omega
        simp [this]
  have h0 : (List.replicate N ([] : List Int)).getD j [] = [] := by simp [List.getD, List.getElem?_replicate, hj]
  have := key fs (List.replicate N []) (by simp) hin
  rw [h0] at this
  simpa [rowsOf] using this
theorem set_rea {N : Nat} {S F : Int} {ss : List (Int × Int × Int)} {fs : List (Int × Int)} (hw : Wf N S F ss fs) (w : List Int) : ∀ (j : Nat), j ≤ w.length → ∀ q : Nat, q < N → ((setB N S ss fs (w.take j)).getD q false = true ↔ Rea w fs ss S 0 q j) := by
  have hin : ∀ p ∈ fs, 0 ≤ p.1 ∧ p.1 < (N : Int) := fun p hp => (hw.free p hp).1
  have clo : ∀ (l : List Int) (j q : Nat), q < N → (∀ x ∈ l, 0 ≤ x ∧ x < (N : Int) → Rea w fs ss S 0 x j) → Rch N (rowsOf N fs) l q → Rea w fs ss S 0 q j := by
    intro l j q _ hl hr
    induction hr with
    | base s h hs => exact hl s h ⟨by omega, by omega⟩
    | step s t h hm ht ih =>
      have := (rowsOf_memN hin h.lt (t : Int)).1 hm
      exact .free (x := ((s : Int), (t : Int))) (ih h.lt) this
  intro j
  have key : ∀ (q : Int) (i : Nat), Rea w fs ss S 0 q i → ∀ b : List Bool, i = j → (∀ q : Nat, q < N → (b.getD q false = true ↔ Rch N (rowsOf N fs) (if j = 0 then [S] else nextOf ss (setB N S ss fs (w.take (j - 1))) (w.getD (j - 1) 0)) q)) → True := fun _ _ _ _ _ _ => trivial
  clear key
  induction j with
  | zero =>
    intro _ q hq
    have e0 : setB N S ss fs (w.take 0) = closeB N (rowsOf N fs) [S] := rfl
    rw [e0, closeB_get]
    constructor
    · refine clo [S] 0 q hq (fun x hx _ => ?_)
      rw [List.mem_singleton.1 hx]
      exact .refl
    · intro h
      have : ∀ (x : Int) (i : Nat), Rea w fs ss S 0 x i → i = 0 → ∃ y : Nat, x = y ∧ Rch N (rowsOf N fs) [S] y := by
        intro x i hr
        induction hr with
        | refl =>
          intro _
          exact ⟨S.toNat, by have := hw.s; omega, .base _ (by rw [List.mem_singleton]; have := hw.s; omega) (by have := hw.s; omega)⟩
        | free h1 hm ih =>
          rename_i x _
          intro e
          obtain ⟨y, e1, e2⟩ := ih e
          have := hw.free x hm
          refine ⟨x.2.toNat, by omega, .step y _ e2 ?_ (by omega)⟩
          rw [rowsOf_memN hin e2.lt, ← e1, Int.toNat_of_nonneg (by omega)]
          exact hm
        | step h1 hm hl hs ih => intro e; omega
      obtain ⟨y, e1, e2⟩ := this _ _ h rfl
      have : q = y := by omega
      rw [this]
      exact e2
  | succ j ih =>
    intro hj q hq
    have ih := ih (by omega)
    have e0 : setB N S ss fs (w.take (j + 1)) = closeB N (rowsOf N fs) (nextOf ss (setB N S ss fs (w.take j)) (w.getD j 0)) := by
      have : w.take (j + 1) = w.take j ++ [w.getD j 0] := by
        rw [List.take_succ_eq_append_getElem (by omega), List.getD_eq_getElem?_getD, List.getElem?_eq_getElem (by omega)]
        rfl
      rw [this, setB_snoc]
      rfl
    rw [e0, closeB_get]
    have hnx : ∀ x : Int, x ∈ nextOf ss (setB N S ss fs (w.take j)) (w.getD j 0) ↔ ∃ s ∈ ss, s.2.1 = x ∧ stepOk s.2.2 (w.getD j 0) = true ∧ Rea w fs ss S 0 s.1 j := by
      intro x
      unfold nextOf
      rw [List.mem_map]
      constructor
      · rintro ⟨s, hs, rfl⟩
        obtain ⟨h1, h2⟩ := List.mem_filter.1 hs
        rw [leads, Bool.and_eq_true] at h2
        have := hw.steps s h1
        have h3 := (ih s.1.toNat (by omega)).1 h2.1
        rw [Int.toNat_of_nonneg (by omega)] at h3
        exact ⟨s, h1, rfl, h2.2, h3⟩
      · rintro ⟨s, h1, rfl, h2, h3⟩
        refine ⟨s, List.mem_filter.2 ⟨h1, ?_⟩, rfl⟩
        have := hw.steps s h1
        rw [leads, Bool.and_eq_true]
        refine ⟨(ih s.1.toNat (by omega)).2 ?_, h2⟩
        rw [Int.toNat_of_nonneg (by omega)]
        exact h3
    constructor
    · refine clo _ (j + 1) q hq (fun x hx _ => ?_)
      obtain ⟨s, h1, rfl, h2, h3⟩ := (hnx x).1 hx
      exact .step h3 h1 (by omega) h2
    · intro h
      have : ∀ (x : Int) (i : Nat), Rea w fs ss S 0 x i → i = j + 1 → ∃ y : Nat, x = y ∧ Rch N (rowsOf N fs) (nextOf ss (setB N S ss fs (w.take j)) (w.getD j 0)) y := by
        intro x i hr
        induction hr with
        | refl => intro e; omega
        | free h1 hm ih' =>
          rename_i x _
          intro e
          obtain ⟨y, e1, e2⟩ := ih' e
          have := hw.free x hm
          refine ⟨x.2.toNat, by omega, .step y _ e2 ?_ (by omega)⟩
          rw [rowsOf_memN hin e2.lt, ← e1, Int.toNat_of_nonneg (by omega)]
          exact hm
        | step h1 hm hl hs ih' =>
          rename_i x i'
          intro e
          have e' : i' = j := by omega
          subst e'
          have := hw.steps x hm
          refine ⟨x.2.1.toNat, by omega, .base _ ?_ (by omega)⟩
          rw [Int.toNat_of_nonneg (by omega)]
          exact (hnx _).2 ⟨x, hm, rfl, hs, h1⟩
      obtain ⟨y, e1, e2⟩ := this _ _ h rfl
      have : q = y := by omega
      rw [this]
      exact e2
/-- The machine of a right expression takes just its words. -/
theorem run_Mt {x : Nd} (hr : rightN x = true) (hn : (bPart x ⟨0, [], []⟩).2.n ≤ 1000) (hw : Wf (bPart x ⟨0, [], []⟩).2.n (bPart x ⟨0, [], []⟩).1.1 (bPart x ⟨0, [], []⟩).1.2 (bPart x ⟨0, [], []⟩).2.s (bPart x ⟨0, [], []⟩).2.f) (w : List Int) :
    runB (bPart x ⟨0, [], []⟩).2.n (bPart x ⟨0, [], []⟩).1.1 (bPart x ⟨0, [], []⟩).1.2 (bPart x ⟨0, [], []⟩).2.s (bPart x ⟨0, [], []⟩).2.f w = true ↔ Mt w x 0 w.length := by
  obtain ⟨F, S, e1, e2, e3⟩ := (part_built w x hr ⟨0, [], []⟩).2 hn
  have e1 : (bPart x ⟨0, [], []⟩).2.f = F := e1
  have e2 : (bPart x ⟨0, [], []⟩).2.s = S := e2
  have hq := set_rea hw w w.length (Nat.le_refl _) (bPart x ⟨0, [], []⟩).1.2.toNat (by have := hw.f; omega)
  rw [List.take_length, Int.toNat_of_nonneg hw.f.1] at hq
  unfold runB
  rw [hq, e1, e2]
  obtain ⟨_, _, _, _, c, Sem, s1, s2, s3⟩ := e3
  exact ⟨fun h => s3 0 _ (h.sem s2 (s1 0)), c 0 _⟩
end Go.Proofs.YthhfjjnhkifbfaaDoor.A
/- A, part 35: footprints of guarded operations. -/
namespace Go.Proofs.YthhfjjnhkifbfaaDoor.A
open Go
def fG (y : Option (Option Bool)) (want : Bool) (fp : FP) : FP := match y with
  | some (some b) => if b = want then fp else FP.none_
  | _ => FP.none_
@[go_sem] theorem ft_guard (E : Env) (st : Nat) (ops : Array Oper) (d op ty p af j want a H) : foot E st ops ⟨d, op, ty, p, af, some (j, want)⟩ a H = fG (yieldedA ops a j) want (foot E st ops ⟨d, op, ty, p, af, none⟩ a H) := by
  unfold fG
  cases hy : yieldedA ops a j with
  | none => unfold foot wantedA; simp only [hy, Option.map_none]; rfl
  | some y =>
    cases y with
    | none => unfold foot wantedA; simp only [hy, Option.map_some]; rfl
    | some b =>
      unfold foot wantedA
      simp only [hy, Option.map_some]
      cases b <;> cases want <;> rfl
@[go_sem] theorem fG_none (w fp) : fG (some none) w fp = FP.none_ := rfl
@[go_sem] theorem fG_tt (fp) : fG (some (some true)) true fp = fp := rfl
@[go_sem] theorem fG_ft (fp) : fG (some (some false)) true fp = FP.none_ := rfl
@[go_sem] theorem fG_tf (fp) : fG (some (some true)) false fp = FP.none_ := rfl
@[go_sem] theorem fG_ff (fp) : fG (some (some false)) false fp = fp := rfl
@[go_sem] theorem fG_decide (p : Prop) [Decidable p] (w fp) : fG (some (some (decide p))) w fp = fG (some (some (if p then true else false))) w fp := by
  by_cases h : p <;> simp [h]
end Go.Proofs.YthhfjjnhkifbfaaDoor.A
/- The document's matching: sets of places; one, both. -/
namespace Go.Proofs.YthhfjjnhkifbfaaDoor.A
open Go
set_option maxRecDepth 20000
open Classical in
/-- Where words end that begin in a set. -/
noncomputable def endB (M : Nat → Nat → Prop) (b : List Bool) : List Bool := (List.range b.length).map fun j => decide (∃ i, b.getD i false = true ∧ M i j)
theorem range_getD {n : Nat} (f : Nat → Bool) (j : Nat) : ((List.range n).map f).getD j false = (decide (j < n) && f j) := by
  rw [List.getD_eq_getElem?_getD, List.getElem?_map]
  by_cases h : j < n
  · rw [List.getElem?_range h]; simp [h]
  · rw [List.getElem?_eq_none (by simp; omega)]; simp [h]
theorem endB_length (M b) : (endB M b).length = b.length := by simp [endB]
theorem endB_get {M : Nat → Nat → Prop} {b : List Bool} {j : Nat} : (endB M b).getD j false = true ↔ j < b.length ∧ ∃ i, b.getD i false = true ∧ M i j := by
  classical
  rw [endB, range_getD, Bool.and_eq_true, decide_eq_true_eq, decide_eq_true_eq]
theorem bools_ext {a b : List Bool} (hl : a.length = b.length) (h : ∀ j, j < b.length → (a.getD j false = true ↔ b.getD j false = true)) : a = b := by
  refine List.ext_getElem hl fun j h1 h2 => ?_
  have e1 : a.getD j false = a[j] := by simp [List.getD, h1]
  have e2 : b.getD j false = b[j] := by simp [List.getD, h2]
  rw [Bool.eq_iff_iff, ← e1, ← e2]
  exact h j h2
theorem endB_eq {M : Nat → Nat → Prop} {b c : List Bool} (hl : c.length = b.length) (h : ∀ j, j < b.length → (c.getD j false = true ↔ ∃ i, b.getD i false = true ∧ M i j)) : c = endB M b :=
  bools_ext (by rw [hl, endB_length]) fun j hj => by
    rw [endB_length] at hj
    rw [h j hj, endB_get]
    exact ⟨fun g => ⟨hj, g⟩, fun g => g.2⟩
theorem getD_lt {b : List Bool} {i : Nat} (h : b.getD i false = true) : i < b.length := by
  by_cases hi : i < b.length
  · exact hi
  · rw [List.getD_eq_getElem?_getD, List.getElem?_eq_none (by omega)] at h
    cases h
theorem getD_setB (b : List Bool) (i j : Nat) (x : Bool) : (b.set i x).getD j false = if i = j ∧ j < b.length then x else b.getD j false := by
  rw [List.getD_eq_getElem?_getD, List.getD_eq_getElem?_getD, List.getElem?_set]
  by_cases h1 : i = j
  · subst h1
    by_cases h2 : i < b.length
    · simp [h2]
    · simp [h2]
  · simp [h1]
/-- Together; is there more than there was? -/
def orB (a b : List Bool) : List Bool := (List.range a.length).map fun i => a.getD i false || b.getD i false
def moreB (a b : List Bool) : Bool := (List.range a.length).any fun i => b.getD i false && !a.getD i false
theorem orB_length (a b) : (orB a b).length = a.length := by simp [orB]
theorem orB_get {a b : List Bool} (hl : b.length ≤ a.length) (j : Nat) : (orB a b).getD j false = true ↔ a.getD j false = true ∨ b.getD j false = true := by
  rw [orB, range_getD, Bool.and_eq_true, decide_eq_true_eq, Bool.or_eq_true]
  constructor
  · exact fun h => h.2
  · intro h
    refine ⟨?_, h⟩
    rcases h with h | h
    · exact getD_lt h
    · have := getD_lt h; omega
theorem moreB_iff {a b : List Bool} (hl : b.length ≤ a.length) : moreB a b = true ↔ ∃ i, b.getD i false = true ∧ a.getD i false = false := by
  rw [moreB, List.any_eq_true]
  constructor
  · rintro ⟨i, _, h⟩
    rw [Bool.and_eq_true, Bool.not_eq_true'] at h
    exact ⟨i, h⟩
  · rintro ⟨i, h1, h2⟩
    have := getD_lt h1
    exact ⟨i, List.mem_range.2 (by omega), by rw [h1, h2]; rfl⟩
/-! ### one -/
theorem lookOne5 (X) : lookedAt (EX md0 X) (fun _ => none) 2 Tryd.f43 = true := by kernel_rfl
def oneB (n : Nat) : List Bool := (List.replicate n false).set 0 true
theorem one5_ok (n : Nat) (h0 : 0 < n) (hn : n ≤ 10000000) : Ok Tryd.prog 43 [.int .i64 n, .int .i64 0] (slB (oneB n)) := by
  refine ok_of_WP (E := EX md0 (fun _ _ => none)) (cr := noR) (cp_none _) (noR_ok _) mixed (k := 10) Tryd.func43 (lookOne5 _) rfl ?_
  have hs : splice (cB (List.replicate n false)) 0 [.bool true] = cB (oneB n) := cB_set _ 0 true (by simpa using h0)
  have hl : (oneB n).length = n := by simp [oneB]
  have htk : (cB (oneB n)).take n = cB (oneB n) := take_len (by rw [cB_length, hl])
  have hz := rep_bool n
  simp only [Tryd.f43, Option.getD_some]
  simp (disch := omega) only [go_sem, ↓IntWalk.iteOmega, IntWalk.toNatUp, Nat.reduceEqDiff, Nat.reduceAdd, Nat.reduceMul, Nat.reduceSub, Nat.reduceLT, Nat.reduceLeDiff, Int.reduceToNat, Int.reduceLT, Int.reduceLE, Int.reduceEq, Int.reduceAdd, Int.reduceSub, Int.reduceMul, Int.toNat_natCast, reduceCtorEq, decide_true, decide_false, IntWalk.i64_in, IntWalk.u64_in, IntWalk.u8_in, hz, hs, hl, htk]
  rw [slB, hl]
/-! ### both -/
def orT (a b : List Bool) (k : Nat) : List Bool := (List.range a.length).map fun i => if i < k then a.getD i false || b.getD i false else a.getD i false
def moreT (a b : List Bool) (k : Nat) : Bool := (List.range k).any fun i => b.getD i false && !a.getD i false
theorem orT_length (a b k) : (orT a b k).length = a.length := by simp [orT]
theorem orT_zero (a b) : orT a b 0 = a := bools_ext (orT_length a b 0) fun j hj => by rw [orT, range_getD]; simp [hj]
theorem orT_full (a b) : orT a b a.length = orB a b := bools_ext (by rw [orT_length, orB_length]) fun j hj => by
  rw [orB_length] at hj
  rw [orT, orB, range_getD, range_getD]; simp [hj]
theorem orT_get (a b : List Bool) (k : Nat) (hk : k < a.length) : (orT a b k).getD k false = a.getD k false := by
  rw [orT, range_getD]; simp [hk]
theorem orT_succ (a b : List Bool) (k : Nat) (hk : k < a.length) : orT a b (k + 1) = if b.getD k false && !a.getD k false then (orT a b k).set k true else orT a b k := by
  refine bools_ext ?_ fun j hj => ?_
  · rw [orT_length]; split <;> simp [orT_length]
  · have hja : j < a.length := by
      split at hj <;> simp [orT_length] at hj <;> exact hj
    rw [orT, range_getD]
    by_cases hjk : j = k
    · subst hjk
      have e0 := orT_get a b j hja
      rw [if_pos (by omega), decide_eq_true hja, Bool.true_and]
      cases h1 : b.getD j false <;> cases h2 : a.getD j false <;> rw [h2] at e0
      · rw [if_neg (by decide), e0]; decide
      · rw [if_neg (by decide), e0]; decide
      · rw [if_pos (by decide), getD_setB, if_pos ⟨rfl, by rw [orT_length]; exact hja⟩]; decide
      · rw [if_neg (by decide), e0]; decide
    · have e : (if j < k + 1 then a.getD j false || b.getD j false else a.getD j false) = (if j < k then a.getD j false || b.getD j false else a.getD j false) := by
        by_cases h : j < k
        · rw [if_pos h, if_pos (by omega)]
        · rw [if_neg h, if_neg (by omega)]
      rw [e]
      have e1 : (orT a b k).getD j false = (decide (j < a.length) && (if j < k then a.getD j false || b.getD j false else a.getD j false)) := by rw [orT, range_getD]
      by_cases hc : (b.getD k false && !a.getD k false) = true
      · have e2 : (if k = j ∧ j < (orT a b k).length then true else (orT a b k).getD j false) = (orT a b k).getD j false := if_neg (fun e => hjk e.1.symm)
        rw [if_pos hc, getD_setB, e2, e1]
      · rw [if_neg hc, e1]
theorem moreT_succ (a b : List Bool) (k : Nat) : moreT a b (k + 1) = (moreT a b k || (b.getD k false && !a.getD k false)) := by
  rw [moreT, List.range_succ, List.any_append]
  simp [moreT]
theorem lookBoth (X) : lookedAt (EX md0 X) (fun _ => none) 2 Tryd.f54 = true := by kernel_rfl
theorem both_ok (a b : List Bool) (hl : b.length = a.length) (hn : a.length ≤ 10000000) : Ok Tryd.prog 54 [slB a, slB b] (.tup [slB (orB a b), .bool (moreB a b)]) := by
  refine ok_of_WP (E := EX md0 (fun _ _ => none)) (cr := noR) (cp_none _) (noR_ok _) mixed (k := 10000010) Tryd.func54 (lookBoth _) rfl ?_
  have htk : (cB a).take a.length = cB a := take_len (cB_length a)
  simp only [Tryd.f54, Option.getD_some]
  simp (disch := omega) only [go_sem, ↓IntWalk.iteOmega, IntWalk.toNatUp, Nat.reduceEqDiff, Nat.reduceAdd, Nat.reduceMul, Nat.reduceSub, Nat.reduceLT, Nat.reduceLeDiff, Int.reduceToNat, Int.reduceLT, Int.reduceLE, Int.reduceEq, Int.reduceAdd, Int.reduceSub, Int.reduceMul, Int.toNat_natCast, reduceCtorEq, decide_true, decide_false, IntWalk.i64_in, IntWalk.u64_in, IntWalk.u8_in, htk]
  refine WP_loop (fun m a' o nx => ∃ i : Nat, i ≤ a.length ∧ m = a.length - i ∧ 2 ≤ nx ∧ a' 1 = slB b ∧ a' 6 = .ref (1, 9) (1, 11) 0 a.length ∧ a' 7 = .bool (moreT a b i) ∧ a' 8 = .int .i64 i ∧ o (1, 9) = some (.row ⟨4, 1, (1, 11), false, true, cB (orT a b i)⟩)) a.length (by omega) ⟨0, by omega, by omega, by omega, by simp (disch := omega) only [go_sem, ↓IntWalk.iteOmega, IntWalk.toNatUp, Nat.reduceEqDiff, Nat.reduceAdd, Nat.reduceMul, Nat.reduceSub, Nat.reduceLT, Nat.reduceLeDiff, Int.reduceToNat, Int.reduceLT, Int.reduceLE, Int.reduceEq, Int.reduceAdd, Int.reduceSub, Int.reduceMul, Int.toNat_natCast, reduceCtorEq, decide_true, decide_false, IntWalk.i64_in, IntWalk.u64_in, IntWalk.u8_in], by simp (disch := omega) only [go_sem, ↓IntWalk.iteOmega, IntWalk.toNatUp, Nat.reduceEqDiff, Nat.reduceAdd, Nat.reduceMul, Nat.reduceSub, Nat.reduceLT, Nat.reduceLeDiff, Int.reduceToNat, Int.reduceLT, Int.reduceLE, Int.reduceEq, Int.reduceAdd, Int.reduceSub, Int.reduceMul, Int.toNat_natCast, reduceCtorEq, decide_true, decide_false, IntWalk.i64_in, IntWalk.u64_in, IntWalk.u8_in], by simp (disch := omega) only [go_sem, ↓IntWalk.iteOmega, IntWalk.toNatUp, Nat.reduceEqDiff, Nat.reduceAdd, Nat.reduceMul, Nat.reduceSub, Nat.reduceLT, Nat.reduceLeDiff, Int.reduceToNat, Int.reduceLT, Int.reduceLE, Int.reduceEq, Int.reduceAdd, Int.reduceSub, Int.reduceMul, Int.toNat_natCast, reduceCtorEq, decide_true, decide_false, IntWalk.i64_in, IntWalk.u64_in, IntWalk.u8_in]; rfl, by simp (disch := omega) only [go_sem, ↓IntWalk.iteOmega, IntWalk.toNatUp, Nat.reduceEqDiff, Nat.reduceAdd, Nat.reduceMul, Nat.reduceSub, Nat.reduceLT, Nat.reduceLeDiff, Int.reduceToNat, Int.reduceLT, Int.reduceLE, Int.reduceEq, Int.reduceAdd, Int.reduceSub, Int.reduceMul, Int.toNat_natCast, reduceCtorEq, decide_true, decide_false, IntWalk.i64_in, IntWalk.u64_in, IntWalk.u8_in], by simp (disch := omega) only [go_sem, ↓IntWalk.iteOmega, IntWalk.toNatUp, Nat.reduceEqDiff, Nat.reduceAdd, Nat.reduceMul, Nat.reduceSub, Nat.reduceLT, Nat.reduceLeDiff, Int.reduceToNat, Int.reduceLT, Int.reduceLE, Int.reduceEq, Int.reduceAdd, Int.reduceSub, Int.reduceMul, Int.toNat_natCast, reduceCtorEq, decide_true, decide_false, IntWalk.i64_in, IntWalk.u64_in, IntWalk.u8_in]; rw [orT_zero]⟩ ?_
  rintro m a' o nx ⟨i, hi, rfl, hnx, a1, a6, a7, a8, ho⟩
  have hlt' := orT_length a b i
  by_cases hlt : i < a.length
  · have hgb := cB_get (l := b) (s := 1) (show i < b.length by omega)
    have hga := cB_get (l := orT a b i) (s := 1) (show i < (orT a b i).length by omega)
    rw [orT_get a b i hlt] at hga
    have hset := cB_set (orT a b i) i true (by omega)
    have hsn := orT_succ a b i hlt
    have hmn := moreT_succ a b i
    cases h1 : b.getD i false <;> cases h2 : a.getD i false <;> rw [h1] at hgb <;> rw [h2] at hga <;> rw [h1, h2] at hsn hmn
    · simp (disch := omega) only [go_sem, ↓IntWalk.iteOmega, IntWalk.toNatUp, Nat.reduceEqDiff, Nat.reduceAdd, Nat.reduceMul, Nat.reduceSub, Nat.reduceLT, Nat.reduceLeDiff, Int.reduceToNat, Int.reduceLT, Int.reduceLE, Int.reduceEq, Int.reduceAdd, Int.reduceSub, Int.reduceMul, Int.toNat_natCast, reduceCtorEq, decide_true, decide_false, IntWalk.i64_in, IntWalk.u64_in, IntWalk.u8_in, a1, a6, a7, a8, ho, hgb, hga, hl, hlt']
      exact ⟨_, by omega, i + 1, by omega, rfl, by rw [hmn]; simp, rfl, by rw [hsn]; rfl⟩
    · simp (disch := omega) only [go_sem, ↓IntWalk.iteOmega, IntWalk.toNatUp, Nat.reduceEqDiff, Nat.reduceAdd, Nat.reduceMul, Nat.reduceSub, Nat.reduceLT, Nat.reduceLeDiff, Int.reduceToNat, Int.reduceLT, Int.reduceLE, Int.reduceEq, Int.reduceAdd, Int.reduceSub, Int.reduceMul, Int.toNat_natCast, reduceCtorEq, decide_true, decide_false, IntWalk.i64_in, IntWalk.u64_in, IntWalk.u8_in, a1, a6, a7, a8, ho, hgb, hga, hl, hlt']
      exact ⟨_, by omega, i + 1, by omega, rfl, by rw [hmn]; simp, rfl, by rw [hsn]; rfl⟩
    · simp (disch := omega) only [go_sem, ↓IntWalk.iteOmega, IntWalk.toNatUp, Nat.reduceEqDiff, Nat.reduceAdd, Nat.reduceMul, Nat.reduceSub, Nat.reduceLT, Nat.reduceLeDiff, Int.reduceToNat, Int.reduceLT, Int.reduceLE, Int.reduceEq, Int.reduceAdd, Int.reduceSub, Int.reduceMul, Int.toNat_natCast, reduceCtorEq, decide_true, decide_false, IntWalk.i64_in, IntWalk.u64_in, IntWalk.u8_in, a1, a6, a7, a8, ho, hgb, hga, hl, hlt', hset]
      exact ⟨_, by omega, i + 1, by omega, rfl, by rw [hmn]; simp, rfl, by rw [hsn]; rfl⟩
    · simp (disch := omega) only [go_sem, ↓IntWalk.iteOmega, IntWalk.toNatUp, Nat.reduceEqDiff, Nat.reduceAdd, Nat.reduceMul, Nat.reduceSub, Nat.reduceLT, Nat.reduceLeDiff, Int.reduceToNat, Int.reduceLT, Int.reduceLE, Int.reduceEq, Int.reduceAdd, Int.reduceSub, Int.reduceMul, Int.toNat_natCast, reduceCtorEq, decide_true, decide_false, IntWalk.i64_in, IntWalk.u64_in, IntWalk.u8_in, a1, a6, a7, a8, ho, hgb, hga, hl, hlt']
      exact ⟨_, by omega, i + 1, by omega, rfl, by rw [hmn]; simp, rfl, by rw [hsn]; rfl⟩
  · have hie : i = a.length := by omega
    rw [hie] at a7 ho
    rw [orT_full] at ho
    have htk2 : (cB (orB a b)).take a.length = cB (orB a b) := take_len (by rw [cB_length, orB_length])
    have hol := orB_length a b
    simp (disch := omega) only [go_sem, ↓IntWalk.iteOmega, IntWalk.toNatUp, Nat.reduceEqDiff, Nat.reduceAdd, Nat.reduceMul, Nat.reduceSub, Nat.reduceLT, Nat.reduceLeDiff, Int.reduceToNat, Int.reduceLT, Int.reduceLE, Int.reduceEq, Int.reduceAdd, Int.reduceSub, Int.reduceMul, Int.toNat_natCast, reduceCtorEq, decide_true, decide_false, IntWalk.i64_in, IntWalk.u64_in, IntWalk.u8_in, a1, a6, a7, a8, ho, hl, hol, htk2]
    rw [slB, orB_length]
    rfl
end Go.Proofs.YthhfjjnhkifbfaaDoor.A
/- The document's matching: often, repeat. -/
namespace Go.Proofs.YthhfjjnhkifbfaaDoor.A
open Go
set_option maxRecDepth 20000
/-! ### the plain law -/
theorem Iter.snoc_iff {R : Nat → Nat → Prop} : ∀ {m i j}, Iter R (m + 1) i j ↔ ∃ k, Iter R m i k ∧ R k j
  | 0, i, j => ⟨fun ⟨k, h1, h2⟩ => ⟨i, rfl, by obtain rfl : k = j := h2; exact h1⟩, fun ⟨k, h1, h2⟩ => ⟨j, by obtain rfl : i = k := h1; exact h2, rfl⟩⟩
  | m + 1, i, j => ⟨fun ⟨k, h1, h2⟩ => by
      obtain ⟨k', h3, h4⟩ := Iter.snoc_iff.1 h2
      exact ⟨k', ⟨k, h1, h3⟩, h4⟩, fun ⟨k', ⟨k, h1, h3⟩, h4⟩ => ⟨k, h1, Iter.snoc_iff.2 ⟨k', h3, h4⟩⟩⟩
theorem Iter.le {R : Nat → Nat → Prop} {n : Nat} (hR : ∀ i j, R i j → i ≤ n → j ≤ n) : ∀ {m i j}, Iter R m i j → i ≤ n → j ≤ n
  | 0, i, j, h, hi => by obtain rfl : i = j := h; exact hi
  | m + 1, i, j, ⟨k, h1, h2⟩, hi => Iter.le hR h2 (hR i k h1 hi)
theorem Mt_le (w : List Int) : ∀ (x : Nd) (i j : Nat), Mt w x i j → i ≤ w.length → j ≤ w.length
  | .mk k s lo hi l, i, j, h, hi' => by
    have hkid : ∀ x ∈ l, ∀ i j, Mt w x i j → i ≤ w.length → j ≤ w.length := fun x hm i j => by
      have : SizeOf.sizeOf x < SizeOf.sizeOf (Nd.mk k s lo hi l) := by
        have := List.sizeOf_lt_of_mem hm
        simp only [Nd.mk.sizeOf_spec]
        omega
      exact Mt_le w x i j
    have hJ : ∀ (l' : List Nd), (∀ x ∈ l', ∀ i j, Mt w x i j → i ≤ w.length → j ≤ w.length) → ∀ i j, MtJ w l' i j → i ≤ w.length → j ≤ w.length := by
      intro l'
      induction l' with
      | nil => intro _ i j h hi; rw [MtJ] at h; obtain rfl : i = j := h; exact hi
      | cons x l' ih =>
        intro hl i j h hi
        rw [MtJ] at h
        obtain ⟨k, h1, h2⟩ := h
        exact ih (fun y hy => hl y (List.mem_cons_of_mem _ hy)) k j h2 (hl x (by simp) i k h1 hi)
    have hU : ∀ (l' : List Nd), (∀ x ∈ l', ∀ i j, Mt w x i j → i ≤ w.length → j ≤ w.length) → ∀ i j, MtU w l' i j → i ≤ w.length → j ≤ w.length := by
      intro l'
      induction l' with
      | nil => intro _ i j h hi; rw [MtU] at h; exact h.elim
      | cons x l' ih =>
        intro hl i j h hi
        rw [MtU] at h
        rcases h with h | h
        · exact hl x (by simp) i j h hi
        · exact ih (fun y hy => hl y (List.mem_cons_of_mem _ hy)) i j h hi
    have hH : ∀ i j, MtH w l i j → i ≤ w.length → j ≤ w.length := by
      intro i j h hi
      cases l with
      | nil => rw [MtH] at h; exact h.elim
      | cons x l => rw [MtH] at h; exact hkid x (by simp) i j h hi
    rw [Mt] at h
    split at h
    · obtain ⟨rfl, h1, _⟩ := h; omega
    split at h
    · omega
    split at h
    · exact hJ l hkid i j h hi'
    split at h
    · exact hU l hkid i j h hi'
    split at h
    · obtain ⟨m, h⟩ := h; exact Iter.le hH h hi'
    split at h
    · obtain ⟨m, _, h⟩ := h; exact Iter.le hH h hi'
    split at h
    · obtain ⟨m, _, h⟩ := h; exact Iter.le hH h hi'
    split at h
    · obtain ⟨m, _, _, h⟩ := h; exact Iter.le hH h hi'
    · exact h.elim
termination_by x => SizeOf.sizeOf x
decreasing_by
  exact this
theorem endB_comp {M1 M2 : Nat → Nat → Prop} {b : List Bool} (h : ∀ i k, M1 i k → i < b.length → k < b.length) : endB M2 (endB M1 b) = endB (fun i j => ∃ k, M1 i k ∧ M2 k j) b := by
  refine endB_eq (by rw [endB_length, endB_length]) fun j hj => ?_
  rw [endB_get, endB_length]
  constructor
  · rintro ⟨_, k, h1, h2⟩
    obtain ⟨_, i, h3, h4⟩ := endB_get.1 h1
    exact ⟨i, h3, k, h4, h2⟩
  · rintro ⟨i, h3, k, h4, h2⟩
    exact ⟨hj, k, endB_get.2 ⟨h i k h4 (getD_lt h3), i, h3, h4⟩, h2⟩
theorem endB_congr {M M' : Nat → Nat → Prop} {b : List Bool} (h : ∀ i j, M i j ↔ M' i j) : endB M b = endB M' b := by
  rw [show M = M' from funext fun i => funext fun j => propext (h i j)]
theorem endB_or (M1 M2 : Nat → Nat → Prop) (b : List Bool) : orB (endB M1 b) (endB M2 b) = endB (fun i j => M1 i j ∨ M2 i j) b := by
  refine endB_eq (by rw [orB_length, endB_length]) fun j hj => ?_
  rw [orB_get (by rw [endB_length, endB_length]; exact Nat.le_refl _), endB_get, endB_get]
  constructor
  · rintro (⟨_, i, h1, h2⟩ | ⟨_, i, h1, h2⟩)
    · exact ⟨i, h1, .inl h2⟩
    · exact ⟨i, h1, .inr h2⟩
  · rintro ⟨i, h1, h2 | h2⟩
    · exact .inl ⟨hj, i, h1, h2⟩
    · exact .inr ⟨hj, i, h1, h2⟩
theorem endB_id (b : List Bool) : endB (fun i j => i = j) b = b := (endB_eq rfl fun j _ => ⟨fun h => ⟨j, h, rfl⟩, fun ⟨i, h, e⟩ => e ▸ h⟩).symm
theorem endB_false (b : List Bool) : endB (fun _ _ => False) b = List.replicate b.length false := (endB_eq (by simp) fun j hj => by simp [List.getD_eq_getElem?_getD, hj]).symm
/-- How many are in a set. -/
def trues (l : List Bool) : Nat := (List.range l.length).countP fun j => l.getD j false
theorem countP_lt {p q : Nat → Bool} (h : ∀ j, p j = true → q j = true) (j0 : Nat) (h1 : q j0 = true) (h2 : p j0 = false) : ∀ n, (List.range n).countP p ≤ (List.range n).countP q ∧ (j0 < n → (List.range n).countP p + 1 ≤ (List.range n).countP q)
  | 0 => ⟨by simp, fun h => by omega⟩
  | n + 1 => by
    obtain ⟨g1, g2⟩ := countP_lt h j0 h1 h2 n
    rw [List.range_succ, List.countP_append, List.countP_append, List.countP_singleton, List.countP_singleton]
    have hpq : (if p n = true then 1 else 0) ≤ (if q n = true then 1 else 0) := by
      cases hp : p n with
      | false => simp
      | true => rw [h n hp]; simp
    refine ⟨by omega, fun hj => ?_⟩
    by_cases e : j0 = n
    · subst e
      rw [h1, h2]
      simp
      exact g1
    · have := g2 (by omega); omega
theorem trues_more {a c : List Bool} (hl : c.length = a.length) (h : moreB a c = true) : trues a + 1 ≤ trues (orB a c) := by
  obtain ⟨j0, h1, h2⟩ := (moreB_iff (by omega)).1 h
  unfold trues
  rw [orB_length]
  refine (countP_lt (p := fun j => a.getD j false) (q := fun j => (orB a c).getD j false) (fun j hj => ?_) j0 ?_ h2 a.length).2 (by have := getD_lt h1; omega)
  · exact (orB_get (by omega) j).2 (.inl hj)
  · exact (orB_get (by omega) j0).2 (.inr h1)
theorem trues_le (l : List Bool) : trues l ≤ l.length := by
  unfold trues
  have := List.countP_le_length (p := fun j => l.getD j false) (l := List.range l.length)
  simpa using this
def upM (M : Nat → Nat → Prop) (t : Nat) (i j : Nat) : Prop := ∃ m, 1 ≤ m ∧ m ≤ t ∧ Iter M m i j
def plusM (M : Nat → Nat → Prop) (i j : Nat) : Prop := ∃ m, 1 ≤ m ∧ Iter M m i j
theorem upM_succ (M : Nat → Nat → Prop) (t i j : Nat) : upM M (t + 1) i j ↔ upM M t i j ∨ Iter M (t + 1) i j := by
  constructor
  · rintro ⟨m, h1, h2, h3⟩
    by_cases e : m = t + 1
    · subst e; exact .inr h3
    · exact .inl ⟨m, h1, by omega, h3⟩
  · rintro (⟨m, h1, h2, h3⟩ | h)
    · exact ⟨m, h1, by omega, h3⟩
    · exact ⟨t + 1, by omega, Nat.le_refl _, h⟩
theorem plus_done {M : Nat → Nat → Prop} {b : List Bool} {t : Nat} (hle : ∀ i j, M i j → i < b.length → j < b.length) (h : moreB (endB (upM M t) b) (endB (Iter M (t + 1)) b) = false) : endB (upM M (t + 1)) b = endB (plusM M) b := by
  have key : ∀ m i j, 1 ≤ m → b.getD i false = true → Iter M m i j → ∃ i', b.getD i' false = true ∧ upM M t i' j := by
    have hno : ∀ i j, b.getD i false = true → Iter M (t + 1) i j → ∃ i', b.getD i' false = true ∧ upM M t i' j := by
      intro i j hi hit
      by_cases hc : ∃ i', b.getD i' false = true ∧ upM M t i' j
      · exact hc
      · exfalso
        have hil := getD_lt hi
        have hjl : j < b.length := by
          have := Iter.le (n := b.length - 1) (fun i j hm h' => by have := hle i j hm (by omega); omega) hit (by omega)
          omega
        have h1 : (endB (Iter M (t + 1)) b).getD j false = true := endB_get.2 ⟨hjl, i, hi, hit⟩
        have h2 : (endB (upM M t) b).getD j false = false := Bool.eq_false_iff.2 (fun e => hc (endB_get.1 e).2)
        rw [(moreB_iff (by rw [endB_length, endB_length]; exact Nat.le_refl _)).2 ⟨j, h1, h2⟩] at h
        cases h
    intro m
    induction m with
    | zero => intro i j h1; omega
    | succ m ih =>
      intro i j _ hi hit
      by_cases hm : m = 0
      · subst hm
        by_cases ht : t = 0
        · subst ht; exact hno i j hi hit
        · exact ⟨i, hi, 1, by omega, by omega, hit⟩
      · obtain ⟨k, h1, h2⟩ := Iter.snoc_iff.1 hit
        obtain ⟨i', h3, m', h4, h5, h6⟩ := ih i k (by omega) hi h1
        have h7 := h6.snoc h2
        by_cases e : m' = t
        · subst e; exact hno i' j h3 h7
        · exact ⟨i', h3, m' + 1, by omega, by omega, h7⟩
  refine bools_ext (by rw [endB_length, endB_length]) fun j hj => ?_
  rw [endB_get, endB_get]
  constructor
  · rintro ⟨h1, i, h2, m, h3, _, h4⟩
    exact ⟨h1, i, h2, m, h3, h4⟩
  · rintro ⟨h1, i, h2, m, h3, h4⟩
    obtain ⟨i', g1, g2⟩ := key m i j h3 h2 h4
    exact ⟨h1, i', g1, (upM_succ M t i' j).2 (.inl g2)⟩
/-! ### contracts as tables -/
def RBoth (args : List AV) (r : AV) : Prop := ∃ a b : List Bool, b.length = a.length ∧ a.length ≤ 10000000 ∧ args = [slB a, slB b] ∧ r = .tup [slB (orB a b), .bool (moreB a b)]
theorem RBoth_fn : Fun1 RBoth := by
  rintro args r r' ⟨a, b, _, _, rfl, rfl⟩ ⟨a', b', _, _, h, rfl⟩
  simp only [List.cons.injEq, AV.sl.injEq, and_true] at h
  rw [cB_inj h.1.2, cB_inj h.2.2]
theorem RBoth_ok (args r) (h : RBoth args r) : Ok Tryd.prog 54 args r := by obtain ⟨a, b, h1, h2, rfl, rfl⟩ := h; exact both_ok a b h1 h2
/-- ends of a node's parts. -/
def RKid (w : List Int) (l : List Nd) (args : List AV) (r : AV) : Prop := ∃ (i : Nat) (b : List Bool), i < l.length ∧ b.length = w.length + 1 ∧ args = [nodeV (l.getD i default), slI w, slB b] ∧ r = slB (endB (Mt w (l.getD i default)) b)
theorem RKid_fn (w l) : Fun1 (RKid w l) := by
  rintro args r r' ⟨i, b, _, _, rfl, rfl⟩ ⟨i', b', _, _, h, rfl⟩
  simp only [List.cons.injEq, AV.agg.injEq, AV.sl.injEq, and_true, true_and] at h
  rw [cNd_inj h.1, cB_inj h.2.2]
def KidsOk (w : List Int) (l : List Nd) : Prop := ∀ i, i < l.length → ∀ b : List Bool, b.length = w.length + 1 → Ok Tryd.prog 42 [nodeV (l.getD i default), slI w, slB b] (slB (endB (Mt w (l.getD i default)) b))
noncomputable def XK (w : List Int) (l : List Nd) : FuncId → List AV → Option AV := tabLook [(42, tRel (RKid w l)), (54, tRel RBoth)]
theorem XK_ok {w l} (h : KidsOk w l) : CPSound Tryd.prog (XK w l) := tab_cons (tab_cons (tab_nil _) (tRel_ok RBoth_ok)) (tRel_ok (fun args r h' => by obtain ⟨i, b, h1, h2, rfl, rfl⟩ := h'; exact h i h1 b h2))
theorem XK_ends {w l} {i : Nat} (hi : i < l.length) {b : List Bool} (hb : b.length = w.length + 1) : XK w l 42 [nodeV (l.getD i default), slI w, slB b] = some (slB (endB (Mt w (l.getD i default)) b)) := tRel_eq (RKid_fn w l) ⟨i, b, hi, hb, rfl, rfl⟩
theorem XK_both {w l} {a b : List Bool} (hl : b.length = a.length) (hn : a.length ≤ 10000000) : XK w l 54 [slB a, slB b] = some (.tup [slB (orB a b), .bool (moreB a b)]) := tRel_eq RBoth_fn ⟨a, b, hl, hn, rfl, rfl⟩
/-! ### often -/
theorem lookOften (X) : lookedAt (EX md0 X) (fun _ => none) 4 Tryd.f55 = true := by kernel_rfl
theorem often_ok (w : List Int) (hw : w.length ≤ 1000000) (x : Nd) (h : KidsOk w [x]) (b : List Bool) (hb : b.length = w.length + 1) : Ok Tryd.prog 55 [nodeV x, slI w, slB b, .int .i64 0] (slB (endB (plusM (Mt w x)) b)) := by
  refine ok_of_WP (E := EX md0 (XK w [x])) (cr := noR) (XK_ok h) (noR_ok _) mixed (k := 10000010) Tryd.func55 (lookOften _) rfl ?_
  have hle : ∀ i j, Mt w x i j → i < b.length → j < b.length := fun i j hm hi => by have := Mt_le w x i j hm (by omega); omega
  have hends : ∀ c : List Bool, c.length = w.length + 1 → XK w [x] 42 [nodeV x, slI w, slB c] = some (slB (endB (Mt w x) c)) := fun c hc => XK_ends (l := [x]) (i := 0) (by simp) hc
  have hboth : ∀ a c : List Bool, c.length = a.length → a.length ≤ 10000000 → XK w [x] 54 [slB a, slB c] = some (.tup [slB (orB a c), .bool (moreB a c)]) := fun a c => XK_both
  generalize Mt w x = M at *
  generalize XK w [x] = X at *
  have hup0 : endB (upM M 0) b = List.replicate b.length false := by
    rw [← endB_false]
    exact endB_congr (fun i j => ⟨fun ⟨m, h1, h2, _⟩ => by omega, fun h => h.elim⟩)
  have hit0 : endB (Iter M 0) b = b := (endB_congr (fun i j => Iff.rfl)).trans (endB_id b)
  have hz := rep_bool b.length
  obtain ⟨k, s, lo, hi, l⟩ := x
  simp only [nodeV, cNd_mk] at hends
  simp only [Tryd.f55, Option.getD_some, nodeV, cNd_mk]
  simp (disch := omega) only [go_sem, ↓IntWalk.iteOmega, IntWalk.toNatUp, Nat.reduceEqDiff, Nat.reduceAdd, Nat.reduceMul, Nat.reduceSub, Nat.reduceLT, Nat.reduceLeDiff, Int.reduceToNat, Int.reduceLT, Int.reduceLE, Int.reduceEq, Int.reduceAdd, Int.reduceSub, Int.reduceMul, Int.toNat_natCast, reduceCtorEq, decide_true, decide_false, IntWalk.i64_in, IntWalk.u64_in, IntWalk.u8_in, hz]
  refine WP_loop (fun m a o nx => ∃ t : Nat, t ≤ trues (endB (upM M t) b) ∧ m = b.length + 1 - t ∧ 2 ≤ nx ∧ a 1 = slI w ∧ a 3 = .int .i64 0 ∧ a 4 = .ptr (0, 4) (0, 4) 0 ∧ (a 9 = slB (endB (upM M t) b) ∨ (t = 0 ∧ a 9 = .ref (1, 16) (1, 16) 0 b.length ∧ o (1, 16) = some (.row ⟨4, 1, (1, 16), false, true, cB (List.replicate b.length false)⟩))) ∧ a 10 = slB (endB (Iter M t) b) ∧ a 11 = .int .i64 t ∧ o (0, 4) = some (.row ⟨54, 1, (0, 4), false, true, [.int .i64 k, .int .i64 s, .int .i64 lo, .int .i64 hi, slN l]⟩)) (b.length + 1) (by omega) ⟨0, by omega, by omega, by omega, by simp (disch := omega) only [go_sem, ↓IntWalk.iteOmega, IntWalk.toNatUp, Nat.reduceEqDiff, Nat.reduceAdd, Nat.reduceMul, Nat.reduceSub, Nat.reduceLT, Nat.reduceLeDiff, Int.reduceToNat, Int.reduceLT, Int.reduceLE, Int.reduceEq, Int.reduceAdd, Int.reduceSub, Int.reduceMul, Int.toNat_natCast, reduceCtorEq, decide_true, decide_false, IntWalk.i64_in, IntWalk.u64_in, IntWalk.u8_in], by simp (disch := omega) only [go_sem, ↓IntWalk.iteOmega, IntWalk.toNatUp, Nat.reduceEqDiff, Nat.reduceAdd, Nat.reduceMul, Nat.reduceSub, Nat.reduceLT, Nat.reduceLeDiff, Int.reduceToNat, Int.reduceLT, Int.reduceLE, Int.reduceEq, Int.reduceAdd, Int.reduceSub, Int.reduceMul, Int.toNat_natCast, reduceCtorEq, decide_true, decide_false, IntWalk.i64_in, IntWalk.u64_in, IntWalk.u8_in], by simp (disch := omega) only [go_sem, ↓IntWalk.iteOmega, IntWalk.toNatUp, Nat.reduceEqDiff, Nat.reduceAdd, Nat.reduceMul, Nat.reduceSub, Nat.reduceLT, Nat.reduceLeDiff, Int.reduceToNat, Int.reduceLT, Int.reduceLE, Int.reduceEq, Int.reduceAdd, Int.reduceSub, Int.reduceMul, Int.toNat_natCast, reduceCtorEq, decide_true, decide_false, IntWalk.i64_in, IntWalk.u64_in, IntWalk.u8_in], .inr ⟨rfl, by simp (disch := omega) only [go_sem, ↓IntWalk.iteOmega, IntWalk.toNatUp, Nat.reduceEqDiff, Nat.reduceAdd, Nat.reduceMul, Nat.reduceSub, Nat.reduceLT, Nat.reduceLeDiff, Int.reduceToNat, Int.reduceLT, Int.reduceLE, Int.reduceEq, Int.reduceAdd, Int.reduceSub, Int.reduceMul, Int.toNat_natCast, reduceCtorEq, decide_true, decide_false, IntWalk.i64_in, IntWalk.u64_in, IntWalk.u8_in], by simp (disch := omega) only [go_sem, ↓IntWalk.iteOmega, IntWalk.toNatUp, Nat.reduceEqDiff, Nat.reduceAdd, Nat.reduceMul, Nat.reduceSub, Nat.reduceLT, Nat.reduceLeDiff, Int.reduceToNat, Int.reduceLT, Int.reduceLE, Int.reduceEq, Int.reduceAdd, Int.reduceSub, Int.reduceMul, Int.toNat_natCast, reduceCtorEq, decide_true, decide_false, IntWalk.i64_in, IntWalk.u64_in, IntWalk.u8_in]⟩, by simp (disch := omega) only [go_sem, ↓IntWalk.iteOmega, IntWalk.toNatUp, Nat.reduceEqDiff, Nat.reduceAdd, Nat.reduceMul, Nat.reduceSub, Nat.reduceLT, Nat.reduceLeDiff, Int.reduceToNat, Int.reduceLT, Int.reduceLE, Int.reduceEq, Int.reduceAdd, Int.reduceSub, Int.reduceMul, Int.toNat_natCast, reduceCtorEq, decide_true, decide_false, IntWalk.i64_in, IntWalk.u64_in, IntWalk.u8_in]; rw [hit0], by simp (disch := omega) only [go_sem, ↓IntWalk.iteOmega, IntWalk.toNatUp, Nat.reduceEqDiff, Nat.reduceAdd, Nat.reduceMul, Nat.reduceSub, Nat.reduceLT, Nat.reduceLeDiff, Int.reduceToNat, Int.reduceLT, Int.reduceLE, Int.reduceEq, Int.reduceAdd, Int.reduceSub, Int.reduceMul, Int.toNat_natCast, reduceCtorEq, decide_true, decide_false, IntWalk.i64_in, IntWalk.u64_in, IntWalk.u8_in], by simp (disch := omega) only [go_sem, ↓IntWalk.iteOmega, IntWalk.toNatUp, Nat.reduceEqDiff, Nat.reduceAdd, Nat.reduceMul, Nat.reduceSub, Nat.reduceLT, Nat.reduceLeDiff, Int.reduceToNat, Int.reduceLT, Int.reduceLE, Int.reduceEq, Int.reduceAdd, Int.reduceSub, Int.reduceMul, Int.toNat_natCast, reduceCtorEq, decide_true, decide_false, IntWalk.i64_in, IntWalk.u64_in, IntWalk.u8_in]⟩ ?_
  rintro m a o nx ⟨t, ht, rfl, hnx, a1, a3, a4, h9, a10, a11, ho⟩
  have htl := trues_le (endB (upM M t) b)
  rw [endB_length] at htl
  have hc1 : (endB (Iter M t) b).length = w.length + 1 := by rw [endB_length, hb]
  have e1 := hends _ hc1
  have e2 : endB M (endB (Iter M t) b) = endB (Iter M (t + 1)) b := by
    rw [endB_comp (fun i k hm hi => by
      have := Iter.le (n := b.length - 1) (fun i j hm h' => by have := hle i j hm (by omega); omega) hm (by omega)
      omega)]
    exact endB_congr (fun i j => Iter.snoc_iff.symm)
  rw [e2] at e1
  have hl1 : (endB (Iter M (t + 1)) b).length = (endB (upM M t) b).length := by rw [endB_length, endB_length]
  have e3 := hboth (endB (upM M t) b) (endB (Iter M (t + 1)) b) hl1 (by rw [endB_length]; omega)
  have e4 : orB (endB (upM M t) b) (endB (Iter M (t + 1)) b) = endB (upM M (t + 1)) b := by
    rw [endB_or]
    exact endB_congr (fun i j => (upM_succ M t i j).symm)
  have hlU : (endB (upM M t) b).length = b.length := endB_length _ _
  have hlI : (endB (Iter M t) b).length = b.length := endB_length _ _
  have hlI' : (endB (Iter M (t + 1)) b).length = b.length := endB_length _ _
  have hlU' : (endB (upM M (t + 1)) b).length = b.length := endB_length _ _
  have hmore := trues_more hl1
  have hdone := plus_done (t := t) hle
  rw [e4] at e3 hmore
  cases hm : moreB (endB (upM M t) b) (endB (Iter M (t + 1)) b) with
  | true =>
    rw [hm] at e3 hmore
    have hmore := hmore rfl
    rcases h9 with h9 | ⟨rfl, h9, ho9⟩
    · simp (disch := omega) only [go_sem, ↓IntWalk.iteOmega, IntWalk.toNatUp, Nat.reduceEqDiff, Nat.reduceAdd, Nat.reduceMul, Nat.reduceSub, Nat.reduceLT, Nat.reduceLeDiff, Int.reduceToNat, Int.reduceLT, Int.reduceLE, Int.reduceEq, Int.reduceAdd, Int.reduceSub, Int.reduceMul, Int.toNat_natCast, reduceCtorEq, decide_true, decide_false, IntWalk.i64_in, IntWalk.u64_in, IntWalk.u8_in, a1, a3, a4, h9, a10, a11, ho, e1, e3]
      exact ⟨_, by omega, t + 1, by omega, rfl, rfl, rfl, rfl⟩
    · rw [hup0] at e3
      have htk : (cB (List.replicate b.length false)).take b.length = cB (List.replicate b.length false) := take_len (by simp [cB])
      have hlr : (List.replicate b.length false).length = b.length := List.length_replicate
      simp only [slB, hlr] at e3
      simp (disch := omega) only [go_sem, ↓IntWalk.iteOmega, IntWalk.toNatUp, Nat.reduceEqDiff, Nat.reduceAdd, Nat.reduceMul, Nat.reduceSub, Nat.reduceLT, Nat.reduceLeDiff, Int.reduceToNat, Int.reduceLT, Int.reduceLE, Int.reduceEq, Int.reduceAdd, Int.reduceSub, Int.reduceMul, Int.toNat_natCast, reduceCtorEq, decide_true, decide_false, IntWalk.i64_in, IntWalk.u64_in, IntWalk.u8_in, a1, a3, a4, h9, ho9, a10, a11, ho, e1, e3, htk]
      exact ⟨_, by omega, 0 + 1, by omega, rfl, rfl, rfl, rfl⟩
  | false =>
    rw [hm] at e3
    have hdone := hdone hm
    rw [hdone] at e3
    have hlP : (endB (plusM M) b).length = b.length := endB_length _ _
    rcases h9 with h9 | ⟨rfl, h9, ho9⟩
    · simp (disch := omega) only [go_sem, ↓IntWalk.iteOmega, IntWalk.toNatUp, Nat.reduceEqDiff, Nat.reduceAdd, Nat.reduceMul, Nat.reduceSub, Nat.reduceLT, Nat.reduceLeDiff, Int.reduceToNat, Int.reduceLT, Int.reduceLE, Int.reduceEq, Int.reduceAdd, Int.reduceSub, Int.reduceMul, Int.toNat_natCast, reduceCtorEq, decide_true, decide_false, IntWalk.i64_in, IntWalk.u64_in, IntWalk.u8_in, a1, a3, a4, h9, a10, a11, ho, e1, e3]
    · rw [hup0] at e3
      have htk : (cB (List.replicate b.length false)).take b.length = cB (List.replicate b.length false) := take_len (by simp [cB])
      have hlr : (List.replicate b.length false).length = b.length := List.length_replicate
      simp only [slB, hlr] at e3
      simp (disch := omega) only [go_sem, ↓IntWalk.iteOmega, IntWalk.toNatUp, Nat.reduceEqDiff, Nat.reduceAdd, Nat.reduceMul, Nat.reduceSub, Nat.reduceLT, Nat.reduceLeDiff, Int.reduceToNat, Int.reduceLT, Int.reduceLE, Int.reduceEq, Int.reduceAdd, Int.reduceSub, Int.reduceMul, Int.toNat_natCast, reduceCtorEq, decide_true, decide_false, IntWalk.i64_in, IntWalk.u64_in, IntWalk.u8_in, a1, a3, a4, h9, ho9, a10, a11, ho, e1, e3, htk]
/-! ### repeat -/
def repM (lo hi : Nat) (M : Nat → Nat → Prop) (i j : Nat) : Prop := ∃ m, lo ≤ m ∧ m ≤ hi ∧ Iter M m i j
theorem repM_succ {lo t : Nat} (h : lo ≤ t) (M : Nat → Nat → Prop) (i j : Nat) : repM lo (t + 1) M i j ↔ repM lo t M i j ∨ Iter M (t + 1) i j := by
  constructor
  · rintro ⟨m, h1, h2, h3⟩
    by_cases e : m = t + 1
    · subst e; exact .inr h3
    · exact .inl ⟨m, h1, by omega, h3⟩
  · rintro (⟨m, h1, h2, h3⟩ | h')
    · exact ⟨m, h1, by omega, h3⟩
    · exact ⟨t + 1, by omega, Nat.le_refl _, h'⟩
theorem repM_self (lo : Nat) (M : Nat → Nat → Prop) (i j : Nat) : Iter M lo i j ↔ repM lo lo M i j :=
  ⟨fun h => ⟨lo, Nat.le_refl _, Nat.le_refl _, h⟩, fun ⟨m, h1, h2, h3⟩ => (show m = lo by omega) ▸ h3⟩
theorem lookRep5 (X) : lookedAt (EX md0 X) (fun _ => none) 3 Tryd.f56 = true := by kernel_rfl
theorem repeat_ok (w : List Int) (hw : w.length ≤ 1000000) (x : Nd) (h : KidsOk w [x]) (lo hi : Nat) (h1 : lo ≤ hi) (h2 : hi ≤ 1000) (b : List Bool) (hb : b.length = w.length + 1) : Ok Tryd.prog 56 [nodeV (.mk 9 0 lo hi [x]), slI w, slB b] (slB (endB (repM lo hi (Mt w x)) b)) := by
  refine ok_of_WP (E := EX md0 (XK w [x])) (cr := noR) (XK_ok h) (noR_ok _) mixed (k := 10000010) Tryd.func56 (lookRep5 _) rfl ?_
  have hle : ∀ i j, Mt w x i j → i < b.length → j < b.length := fun i j hm hi => by have := Mt_le w x i j hm (by omega); omega
  have hends : ∀ c : List Bool, c.length = w.length + 1 → XK w [x] 42 [nodeV x, slI w, slB c] = some (slB (endB (Mt w x) c)) := fun c hc => XK_ends (l := [x]) (i := 0) (by simp) hc
  have hboth : ∀ a c : List Bool, c.length = a.length → a.length ≤ 10000000 → XK w [x] 54 [slB a, slB c] = some (.tup [slB (orB a c), .bool (moreB a c)]) := fun a c => XK_both
  generalize Mt w x = M at *
  generalize XK w [x] = X at *
  have hit0 : endB (Iter M 0) b = b := (endB_congr (fun i j => Iff.rfl)).trans (endB_id b)
  have hit : ∀ t, endB M (endB (Iter M t) b) = endB (Iter M (t + 1)) b := fun t => by
    rw [endB_comp (fun i k hm hi => by
      have := Iter.le (n := b.length - 1) (fun i j hm h' => by have := hle i j hm (by omega); omega) hm (by omega)
      omega)]
    exact endB_congr (fun i j => Iter.snoc_iff.symm)
  have hat : cNds [x] = cNd x ++ [] := by rw [cNds_one, List.append_nil]
  have hlI : ∀ t, (endB (Iter M t) b).length = b.length := fun t => endB_length _ _
  have hlR : ∀ t, (endB (repM lo t M) b).length = b.length := fun t => endB_length _ _
  have hself : endB (Iter M lo) b = endB (repM lo lo M) b := endB_congr (fun i j => repM_self lo M i j)
  simp only [nodeV] at hends
  simp only [Tryd.f56, Option.getD_some, nodeV, cNd_mk, slN, List.length_singleton, hat]
  simp (disch := omega) only [go_sem, ↓IntWalk.iteOmega, IntWalk.toNatUp, Nat.reduceEqDiff, Nat.reduceAdd, Nat.reduceMul, Nat.reduceSub, Nat.reduceLT, Nat.reduceLeDiff, Int.reduceToNat, Int.reduceLT, Int.reduceLE, Int.reduceEq, Int.reduceAdd, Int.reduceSub, Int.reduceMul, Int.toNat_natCast, reduceCtorEq, decide_true, decide_false, IntWalk.i64_in, IntWalk.u64_in, IntWalk.u8_in]
  refine WP_loop (fun m a o nx => ∃ t : Nat, t ≤ lo ∧ m = lo - t ∧ 2 ≤ nx ∧ a 1 = slI w ∧ a 2 = slB (endB (Iter M t) b) ∧ a 3 = .ptr (0, 3) (0, 3) 0 ∧ a 7 = .int .i64 t ∧ o (0, 3) = some (.row ⟨54, 1, (0, 3), false, true, [.int .i64 9, .int .i64 0, .int .i64 lo, .int .i64 hi, .sl 1 (cNd x ++ [])]⟩)) lo (by omega) ⟨0, by omega, by omega, by omega, by simp (disch := omega) only [go_sem, ↓IntWalk.iteOmega, IntWalk.toNatUp, Nat.reduceEqDiff, Nat.reduceAdd, Nat.reduceMul, Nat.reduceSub, Nat.reduceLT, Nat.reduceLeDiff, Int.reduceToNat, Int.reduceLT, Int.reduceLE, Int.reduceEq, Int.reduceAdd, Int.reduceSub, Int.reduceMul, Int.toNat_natCast, reduceCtorEq, decide_true, decide_false, IntWalk.i64_in, IntWalk.u64_in, IntWalk.u8_in], by simp (disch := omega) only [go_sem, ↓IntWalk.iteOmega, IntWalk.toNatUp, Nat.reduceEqDiff, Nat.reduceAdd, Nat.reduceMul, Nat.reduceSub, Nat.reduceLT, Nat.reduceLeDiff, Int.reduceToNat, Int.reduceLT, Int.reduceLE, Int.reduceEq, Int.reduceAdd, Int.reduceSub, Int.reduceMul, Int.toNat_natCast, reduceCtorEq, decide_true, decide_false, IntWalk.i64_in, IntWalk.u64_in, IntWalk.u8_in]; rw [hit0], by simp (disch := omega) only [go_sem, ↓IntWalk.iteOmega, IntWalk.toNatUp, Nat.reduceEqDiff, Nat.reduceAdd, Nat.reduceMul, Nat.reduceSub, Nat.reduceLT, Nat.reduceLeDiff, Int.reduceToNat, Int.reduceLT, Int.reduceLE, Int.reduceEq, Int.reduceAdd, Int.reduceSub, Int.reduceMul, Int.toNat_natCast, reduceCtorEq, decide_true, decide_false, IntWalk.i64_in, IntWalk.u64_in, IntWalk.u8_in], by simp (disch := omega) only [go_sem, ↓IntWalk.iteOmega, IntWalk.toNatUp, Nat.reduceEqDiff, Nat.reduceAdd, Nat.reduceMul, Nat.reduceSub, Nat.reduceLT, Nat.reduceLeDiff, Int.reduceToNat, Int.reduceLT, Int.reduceLE, Int.reduceEq, Int.reduceAdd, Int.reduceSub, Int.reduceMul, Int.toNat_natCast, reduceCtorEq, decide_true, decide_false, IntWalk.i64_in, IntWalk.u64_in, IntWalk.u8_in], by simp (disch := omega) only [go_sem, ↓IntWalk.iteOmega, IntWalk.toNatUp, Nat.reduceEqDiff, Nat.reduceAdd, Nat.reduceMul, Nat.reduceSub, Nat.reduceLT, Nat.reduceLeDiff, Int.reduceToNat, Int.reduceLT, Int.reduceLE, Int.reduceEq, Int.reduceAdd, Int.reduceSub, Int.reduceMul, Int.toNat_natCast, reduceCtorEq, decide_true, decide_false, IntWalk.i64_in, IntWalk.u64_in, IntWalk.u8_in]⟩ ?_
  rintro m a o nx ⟨t, ht, rfl, hnx, a1, a2, a3, a7, ho⟩
  have e1 := hends _ ((hlI t).trans hb)
  rw [hit t] at e1
  have l1 := hlI t
  have l2 := hlI (t + 1)
  by_cases hlt : t < lo
  · simp (disch := omega) only [go_sem, ↓IntWalk.iteOmega, IntWalk.toNatUp, Nat.reduceEqDiff, Nat.reduceAdd, Nat.reduceMul, Nat.reduceSub, Nat.reduceLT, Nat.reduceLeDiff, Int.reduceToNat, Int.reduceLT, Int.reduceLE, Int.reduceEq, Int.reduceAdd, Int.reduceSub, Int.reduceMul, Int.toNat_natCast, reduceCtorEq, decide_true, decide_false, IntWalk.i64_in, IntWalk.u64_in, IntWalk.u8_in, a1, a2, a3, a7, ho, e1]
    exact ⟨_, by omega, t + 1, by omega, rfl, rfl, rfl⟩
  · have hte : t = lo := by omega
    subst hte
    clear e1
    simp (disch := omega) only [go_sem, ↓IntWalk.iteOmega, IntWalk.toNatUp, Nat.reduceEqDiff, Nat.reduceAdd, Nat.reduceMul, Nat.reduceSub, Nat.reduceLT, Nat.reduceLeDiff, Int.reduceToNat, Int.reduceLT, Int.reduceLE, Int.reduceEq, Int.reduceAdd, Int.reduceSub, Int.reduceMul, Int.toNat_natCast, reduceCtorEq, decide_true, decide_false, IntWalk.i64_in, IntWalk.u64_in, IntWalk.u8_in, a1, a2, a3, a7, ho]
    refine WP_loop (fun m a o nx => ∃ u : Nat, t ≤ u ∧ u ≤ hi ∧ m = hi - u ∧ 2 ≤ nx ∧ a 1 = slI w ∧ a 2 = slB (endB (Iter M u) b) ∧ a 3 = .ptr (0, 3) (0, 3) 0 ∧ a 8 = slB (endB (repM t u M) b) ∧ a 9 = .int .i64 u ∧ o (0, 3) = some (.row ⟨54, 1, (0, 3), false, true, [.int .i64 9, .int .i64 0, .int .i64 t, .int .i64 hi, .sl 1 (cNd x ++ [])]⟩)) (hi - t) (by omega) ⟨t, by omega, by omega, by omega, by omega, by simp (disch := omega) only [go_sem, ↓IntWalk.iteOmega, IntWalk.toNatUp, Nat.reduceEqDiff, Nat.reduceAdd, Nat.reduceMul, Nat.reduceSub, Nat.reduceLT, Nat.reduceLeDiff, Int.reduceToNat, Int.reduceLT, Int.reduceLE, Int.reduceEq, Int.reduceAdd, Int.reduceSub, Int.reduceMul, Int.toNat_natCast, reduceCtorEq, decide_true, decide_false, IntWalk.i64_in, IntWalk.u64_in, IntWalk.u8_in, a1], by simp (disch := omega) only [go_sem, ↓IntWalk.iteOmega, IntWalk.toNatUp, Nat.reduceEqDiff, Nat.reduceAdd, Nat.reduceMul, Nat.reduceSub, Nat.reduceLT, Nat.reduceLeDiff, Int.reduceToNat, Int.reduceLT, Int.reduceLE, Int.reduceEq, Int.reduceAdd, Int.reduceSub, Int.reduceMul, Int.toNat_natCast, reduceCtorEq, decide_true, decide_false, IntWalk.i64_in, IntWalk.u64_in, IntWalk.u8_in, a2], by simp (disch := omega) only [go_sem, ↓IntWalk.iteOmega, IntWalk.toNatUp, Nat.reduceEqDiff, Nat.reduceAdd, Nat.reduceMul, Nat.reduceSub, Nat.reduceLT, Nat.reduceLeDiff, Int.reduceToNat, Int.reduceLT, Int.reduceLE, Int.reduceEq, Int.reduceAdd, Int.reduceSub, Int.reduceMul, Int.toNat_natCast, reduceCtorEq, decide_true, decide_false, IntWalk.i64_in, IntWalk.u64_in, IntWalk.u8_in, a3], by simp (disch := omega) only [go_sem, ↓IntWalk.iteOmega, IntWalk.toNatUp, Nat.reduceEqDiff, Nat.reduceAdd, Nat.reduceMul, Nat.reduceSub, Nat.reduceLT, Nat.reduceLeDiff, Int.reduceToNat, Int.reduceLT, Int.reduceLE, Int.reduceEq, Int.reduceAdd, Int.reduceSub, Int.reduceMul, Int.toNat_natCast, reduceCtorEq, decide_true, decide_false, IntWalk.i64_in, IntWalk.u64_in, IntWalk.u8_in]; rw [← hself], by simp (disch := omega) only [go_sem, ↓IntWalk.iteOmega, IntWalk.toNatUp, Nat.reduceEqDiff, Nat.reduceAdd, Nat.reduceMul, Nat.reduceSub, Nat.reduceLT, Nat.reduceLeDiff, Int.reduceToNat, Int.reduceLT, Int.reduceLE, Int.reduceEq, Int.reduceAdd, Int.reduceSub, Int.reduceMul, Int.toNat_natCast, reduceCtorEq, decide_true, decide_false, IntWalk.i64_in, IntWalk.u64_in, IntWalk.u8_in], by simp (disch := omega) only [go_sem, ↓IntWalk.iteOmega, IntWalk.toNatUp, Nat.reduceEqDiff, Nat.reduceAdd, Nat.reduceMul, Nat.reduceSub, Nat.reduceLT, Nat.reduceLeDiff, Int.reduceToNat, Int.reduceLT, Int.reduceLE, Int.reduceEq, Int.reduceAdd, Int.reduceSub, Int.reduceMul, Int.toNat_natCast, reduceCtorEq, decide_true, decide_false, IntWalk.i64_in, IntWalk.u64_in, IntWalk.u8_in, ho]⟩ ?_
    clear a1 a2 a3 a7 ho hnx
    rintro m a o nx ⟨u, hu, hu2, rfl, hnx, a1, a2, a3, a8, a9, ho⟩
    have e1 := hends _ ((hlI u).trans hb)
    rw [hit u] at e1
    have l3 := hlI u
    have l4 := hlI (u + 1)
    have l5 := hlR u
    have l6 := hlR (u + 1)
    have e2 := hboth (endB (repM t u M) b) (endB (Iter M (u + 1)) b) (by omega) (by omega)
    rw [endB_or, endB_congr (fun i j => (repM_succ hu M i j).symm)] at e2
    generalize moreB (endB (repM t u M) b) (endB (Iter M (u + 1)) b) = q at e2
    by_cases hlt2 : u < hi
    · simp (disch := omega) only [go_sem, ↓IntWalk.iteOmega, IntWalk.toNatUp, Nat.reduceEqDiff, Nat.reduceAdd, Nat.reduceMul, Nat.reduceSub, Nat.reduceLT, Nat.reduceLeDiff, Int.reduceToNat, Int.reduceLT, Int.reduceLE, Int.reduceEq, Int.reduceAdd, Int.reduceSub, Int.reduceMul, Int.toNat_natCast, reduceCtorEq, decide_true, decide_false, IntWalk.i64_in, IntWalk.u64_in, IntWalk.u8_in, a1, a2, a3, a8, a9, ho, e1, e2]
      exact ⟨_, by omega, u + 1, by omega, by omega, rfl, rfl, rfl, rfl⟩
    · have hue : u = hi := by omega
      subst hue
      clear e1 e2
      simp (disch := omega) only [go_sem, ↓IntWalk.iteOmega, IntWalk.toNatUp, Nat.reduceEqDiff, Nat.reduceAdd, Nat.reduceMul, Nat.reduceSub, Nat.reduceLT, Nat.reduceLeDiff, Int.reduceToNat, Int.reduceLT, Int.reduceLE, Int.reduceEq, Int.reduceAdd, Int.reduceSub, Int.reduceMul, Int.toNat_natCast, reduceCtorEq, decide_true, decide_false, IntWalk.i64_in, IntWalk.u64_in, IntWalk.u8_in, a1, a2, a3, a8, a9, ho]
end Go.Proofs.YthhfjjnhkifbfaaDoor.A
/- The document's matching: ends, Match. -/
namespace Go.Proofs.YthhfjjnhkifbfaaDoor.A
open Go
set_option maxRecDepth 20000
def nzE : Nat → Option (List (Nat × Nat))
  | 7 => some [(23, 28)]
  | _ => none
theorem lookEnds (X) : lookedAt (EX md0 X) nzE 3 Tryd.f42 = true := by kernel_rfl
abbrev finE (r : AV) : WPost := fun u a o nx => (u = .normal ∨ u = .ret) ∧ wO (resultsL Tryd.prog a ⟨o, nx⟩ Tryd.f42.results.toList) (fun vs => view o vDepth (tup1 vs) = r)
/-! ### a set -/
def outT (w : List Int) (s : Int) (b : List Bool) (i : Nat) : List Bool := (List.range b.length).map fun j => decide (1 ≤ j ∧ j ≤ i) && (b.getD (j - 1) false && stepOk s (w.getD (j - 1) 0))
theorem outT_length (w s b i) : (outT w s b i).length = b.length := by simp [outT]
theorem outT_zero (w s b) : outT w s b 0 = List.replicate b.length false := bools_ext (by rw [outT_length]; simp) fun j hj => by
  rw [outT, range_getD, decide_eq_false (by omega : ¬ (1 ≤ j ∧ j ≤ 0))]
  simp only [Bool.false_and, Bool.and_false, Bool.false_eq_true, false_iff]
  rw [List.getD_eq_getElem?_getD, List.getElem?_replicate]
  split <;> simp
theorem outT_succ (w s) (b : List Bool) (i : Nat) (h : i + 1 < b.length) : outT w s b (i + 1) = (outT w s b i).set (i + 1) (b.getD i false && stepOk s (w.getD i 0)) := by
  refine bools_ext (by rw [List.length_set, outT_length, outT_length]) fun j hj => ?_
  rw [List.length_set, outT_length] at hj
  rw [getD_setB, outT_length, outT, outT, range_getD, range_getD]
  by_cases e : i + 1 = j
  · subst e
    rw [if_pos ⟨rfl, hj⟩, decide_eq_true (by omega : 1 ≤ i + 1 ∧ i + 1 ≤ i + 1), decide_eq_true hj]
    simp
  · rw [if_neg (fun h => e h.1)]
    have : decide (1 ≤ j ∧ j ≤ i + 1) = decide (1 ≤ j ∧ j ≤ i) := by
      rw [Bool.eq_iff_iff, decide_eq_true_eq, decide_eq_true_eq]; omega
    rw [this]
theorem outT_done (w : List Int) (s lo hi : Int) (b : List Bool) (hb : b.length = w.length + 1) : outT w s b w.length = endB (Mt w (.mk 1 s lo hi [])) b := by
  refine endB_eq (outT_length _ _ _ _) fun j hj => ?_
  rw [outT, range_getD, decide_eq_true hj, Bool.true_and, Bool.and_eq_true, decide_eq_true_eq, Bool.and_eq_true]
  constructor
  · rintro ⟨⟨h1, h2⟩, h3, h4⟩
    refine ⟨j - 1, h3, ?_⟩
    rw [Mt_eq, if_pos rfl]
    exact ⟨by omega, by omega, h4⟩
  · rintro ⟨i, h1, h2⟩
    rw [Mt_eq, if_pos rfl] at h2
    obtain ⟨rfl, h3, h4⟩ := h2
    exact ⟨⟨by omega, by omega⟩, by simpa using h1, by simpa using h4⟩
theorem ends_set (w : List Int) (hw : w.length ≤ 1000000) (s : Int) (b : List Bool) (hb : b.length = w.length + 1) (X : FuncId → List AV → Option AV) :
    WP (EX md0 X) noR 10000010 nzE (Tryd.f42.body.getD .skip) (begin_ [nodeV (.mk 1 s 0 0 []), slI w, slB b]) (fun _ => none) 0 (finE (slB (endB (Mt w (.mk 1 s 0 0 [])) b))) := by
  rw [← outT_done w s 0 0 b hb]
  have hz := rep_bool b.length
  have hol : ∀ i, (outT w s b i).length = b.length := outT_length w s b
  simp only [Tryd.f42, Option.getD_some, nodeV, cNd_mk]
  simp (disch := omega) only [go_sem, ↓IntWalk.iteOmega, IntWalk.toNatUp, Nat.reduceEqDiff, Nat.reduceAdd, Nat.reduceMul, Nat.reduceSub, Nat.reduceLT, Nat.reduceLeDiff, Int.reduceToNat, Int.reduceLT, Int.reduceLE, Int.reduceEq, Int.reduceAdd, Int.reduceSub, Int.reduceMul, Int.toNat_natCast, reduceCtorEq, decide_true, decide_false, IntWalk.i64_in, IntWalk.u64_in, IntWalk.u8_in, hz]
  refine WP_loop (fun m a o nx => ∃ i : Nat, i ≤ w.length ∧ m = w.length - i ∧ 2 ≤ nx ∧ a 1 = slI w ∧ a 2 = slB b ∧ a 3 = .ptr (0, 3) (0, 3) 0 ∧ a 7 = .ref (1, 13) (1, 13) 0 b.length ∧ a 8 = .int .i64 i ∧ o (0, 3) = some (.row ⟨54, 1, (0, 3), false, true, [.int .i64 1, .int .i64 s, .int .i64 0, .int .i64 0, slN []]⟩) ∧ o (1, 13) = some (.row ⟨4, 1, (1, 13), false, true, cB (outT w s b i)⟩)) w.length (by omega) ⟨0, by omega, by omega, by omega, by simp (disch := omega) only [go_sem, ↓IntWalk.iteOmega, IntWalk.toNatUp, Nat.reduceEqDiff, Nat.reduceAdd, Nat.reduceMul, Nat.reduceSub, Nat.reduceLT, Nat.reduceLeDiff, Int.reduceToNat, Int.reduceLT, Int.reduceLE, Int.reduceEq, Int.reduceAdd, Int.reduceSub, Int.reduceMul, Int.toNat_natCast, reduceCtorEq, decide_true, decide_false, IntWalk.i64_in, IntWalk.u64_in, IntWalk.u8_in], by simp (disch := omega) only [go_sem, ↓IntWalk.iteOmega, IntWalk.toNatUp, Nat.reduceEqDiff, Nat.reduceAdd, Nat.reduceMul, Nat.reduceSub, Nat.reduceLT, Nat.reduceLeDiff, Int.reduceToNat, Int.reduceLT, Int.reduceLE, Int.reduceEq, Int.reduceAdd, Int.reduceSub, Int.reduceMul, Int.toNat_natCast, reduceCtorEq, decide_true, decide_false, IntWalk.i64_in, IntWalk.u64_in, IntWalk.u8_in], by simp (disch := omega) only [go_sem, ↓IntWalk.iteOmega, IntWalk.toNatUp, Nat.reduceEqDiff, Nat.reduceAdd, Nat.reduceMul, Nat.reduceSub, Nat.reduceLT, Nat.reduceLeDiff, Int.reduceToNat, Int.reduceLT, Int.reduceLE, Int.reduceEq, Int.reduceAdd, Int.reduceSub, Int.reduceMul, Int.toNat_natCast, reduceCtorEq, decide_true, decide_false, IntWalk.i64_in, IntWalk.u64_in, IntWalk.u8_in], by simp (disch := omega) only [go_sem, ↓IntWalk.iteOmega, IntWalk.toNatUp, Nat.reduceEqDiff, Nat.reduceAdd, Nat.reduceMul, Nat.reduceSub, Nat.reduceLT, Nat.reduceLeDiff, Int.reduceToNat, Int.reduceLT, Int.reduceLE, Int.reduceEq, Int.reduceAdd, Int.reduceSub, Int.reduceMul, Int.toNat_natCast, reduceCtorEq, decide_true, decide_false, IntWalk.i64_in, IntWalk.u64_in, IntWalk.u8_in], by simp (disch := omega) only [go_sem, ↓IntWalk.iteOmega, IntWalk.toNatUp, Nat.reduceEqDiff, Nat.reduceAdd, Nat.reduceMul, Nat.reduceSub, Nat.reduceLT, Nat.reduceLeDiff, Int.reduceToNat, Int.reduceLT, Int.reduceLE, Int.reduceEq, Int.reduceAdd, Int.reduceSub, Int.reduceMul, Int.toNat_natCast, reduceCtorEq, decide_true, decide_false, IntWalk.i64_in, IntWalk.u64_in, IntWalk.u8_in], by simp (disch := omega) only [go_sem, ↓IntWalk.iteOmega, IntWalk.toNatUp, Nat.reduceEqDiff, Nat.reduceAdd, Nat.reduceMul, Nat.reduceSub, Nat.reduceLT, Nat.reduceLeDiff, Int.reduceToNat, Int.reduceLT, Int.reduceLE, Int.reduceEq, Int.reduceAdd, Int.reduceSub, Int.reduceMul, Int.toNat_natCast, reduceCtorEq, decide_true, decide_false, IntWalk.i64_in, IntWalk.u64_in, IntWalk.u8_in], by simp (disch := omega) only [go_sem, ↓IntWalk.iteOmega, IntWalk.toNatUp, Nat.reduceEqDiff, Nat.reduceAdd, Nat.reduceMul, Nat.reduceSub, Nat.reduceLT, Nat.reduceLeDiff, Int.reduceToNat, Int.reduceLT, Int.reduceLE, Int.reduceEq, Int.reduceAdd, Int.reduceSub, Int.reduceMul, Int.toNat_natCast, reduceCtorEq, decide_true, decide_false, IntWalk.i64_in, IntWalk.u64_in, IntWalk.u8_in]; rw [outT_zero]⟩ ?_
  rintro m a o nx ⟨i, hi, rfl, hnx, a1, a2, a3, a7, a8, ho3, ho13⟩
  by_cases hlt : i < w.length
  · have hgb := cB_get (l := b) (s := 1) (show i < b.length by omega)
    have hgw := cI_get (s := 1) hlt
    have hsn := outT_succ w s b i (by omega)
    have hset := cB_set (outT w s b i) (i + 1) (b.getD i false && stepOk s (w.getD i 0)) (by rw [outT_length]; omega)
    have hoi := hol i
    unfold stepOk at hset hsn
    generalize w.getD i 0 = m at hgw hsn hset
    cases hb1 : b.getD i false with
    | false =>
      rw [hb1] at hgb hsn hset
      simp only [Bool.false_and] at hsn hset
      simp (disch := omega) only [go_sem, ↓IntWalk.iteOmega, IntWalk.toNatUp, Nat.reduceEqDiff, Nat.reduceAdd, Nat.reduceMul, Nat.reduceSub, Nat.reduceLT, Nat.reduceLeDiff, Int.reduceToNat, Int.reduceLT, Int.reduceLE, Int.reduceEq, Int.reduceAdd, Int.reduceSub, Int.reduceMul, Int.toNat_natCast, reduceCtorEq, decide_true, decide_false, IntWalk.i64_in, IntWalk.u64_in, IntWalk.u8_in, a1, a2, a3, a7, a8, ho3, ho13, nzE, hgb, hgw, hset, hoi]
      exact ⟨_, by omega, i + 1, by omega, rfl, rfl, by rw [hsn]⟩
    | true =>
      rw [hb1] at hgb hsn hset
      by_cases hm0 : 0 ≤ m
      · by_cases hm5 : m < 5
        · cases hm : hasMode s m with
          | true =>
            rw [hm, decide_eq_true hm0, decide_eq_true hm5] at hsn hset
            simp only [hasMode, decide_eq_true_eq] at hm
            simp only [Bool.and_self] at hsn hset
            simp (disch := omega) only [go_sem, ↓IntWalk.iteOmega, IntWalk.toNatUp, Nat.reduceEqDiff, Nat.reduceAdd, Nat.reduceMul, Nat.reduceSub, Nat.reduceLT, Nat.reduceLeDiff, Int.reduceToNat, Int.reduceLT, Int.reduceLE, Int.reduceEq, Int.reduceAdd, Int.reduceSub, Int.reduceMul, Int.toNat_natCast, reduceCtorEq, decide_true, decide_false, IntWalk.i64_in, IntWalk.u64_in, IntWalk.u8_in, a1, a2, a3, a7, a8, ho3, ho13, nzE, hgb, hgw, hset, hm0, hm5, hm, hoi]
            exact ⟨_, by omega, i + 1, by omega, rfl, rfl, by rw [hsn]⟩
          | false =>
            rw [hm, decide_eq_true hm0, decide_eq_true hm5] at hsn hset
            simp only [hasMode, decide_eq_false_iff_not] at hm
            simp only [Bool.and_false] at hsn hset
            simp (disch := omega) only [go_sem, ↓IntWalk.iteOmega, IntWalk.toNatUp, Nat.reduceEqDiff, Nat.reduceAdd, Nat.reduceMul, Nat.reduceSub, Nat.reduceLT, Nat.reduceLeDiff, Int.reduceToNat, Int.reduceLT, Int.reduceLE, Int.reduceEq, Int.reduceAdd, Int.reduceSub, Int.reduceMul, Int.toNat_natCast, reduceCtorEq, decide_true, decide_false, IntWalk.i64_in, IntWalk.u64_in, IntWalk.u8_in, a1, a2, a3, a7, a8, ho3, ho13, nzE, hgb, hgw, hset, hm0, hm5, hm, hoi]
            exact ⟨_, by omega, i + 1, by omega, rfl, rfl, by rw [hsn]⟩
        · rw [decide_eq_true hm0, decide_eq_false hm5] at hsn hset
          simp only [Bool.and_false, Bool.false_and] at hsn hset
          simp (disch := omega) only [go_sem, ↓IntWalk.iteOmega, IntWalk.toNatUp, Nat.reduceEqDiff, Nat.reduceAdd, Nat.reduceMul, Nat.reduceSub, Nat.reduceLT, Nat.reduceLeDiff, Int.reduceToNat, Int.reduceLT, Int.reduceLE, Int.reduceEq, Int.reduceAdd, Int.reduceSub, Int.reduceMul, Int.toNat_natCast, reduceCtorEq, decide_true, decide_false, IntWalk.i64_in, IntWalk.u64_in, IntWalk.u8_in, a1, a2, a3, a7, a8, ho3, ho13, nzE, hgb, hgw, hset, hoi]
          exact ⟨_, by omega, i + 1, by omega, rfl, rfl, by rw [hsn]⟩
      · rw [decide_eq_false hm0] at hsn hset
        simp only [Bool.and_false, Bool.false_and] at hsn hset
        simp (disch := omega) only [go_sem, ↓IntWalk.iteOmega, IntWalk.toNatUp, Nat.reduceEqDiff, Nat.reduceAdd, Nat.reduceMul, Nat.reduceSub, Nat.reduceLT, Nat.reduceLeDiff, Int.reduceToNat, Int.reduceLT, Int.reduceLE, Int.reduceEq, Int.reduceAdd, Int.reduceSub, Int.reduceMul, Int.toNat_natCast, reduceCtorEq, decide_true, decide_false, IntWalk.i64_in, IntWalk.u64_in, IntWalk.u8_in, a1, a2, a3, a7, a8, ho3, ho13, nzE, hgb, hgw, hset, hoi]
        exact ⟨_, by omega, i + 1, by omega, rfl, rfl, by rw [hsn]⟩
  · have hie : i = w.length := by omega
    rw [hie] at ho13
    have hoi := hol w.length
    have htk : (cB (outT w s b w.length)).take b.length = cB (outT w s b w.length) := take_len (by rw [cB_length, hoi])
    simp (disch := omega) only [go_sem, ↓IntWalk.iteOmega, IntWalk.toNatUp, Nat.reduceEqDiff, Nat.reduceAdd, Nat.reduceMul, Nat.reduceSub, Nat.reduceLT, Nat.reduceLeDiff, Int.reduceToNat, Int.reduceLT, Int.reduceLE, Int.reduceEq, Int.reduceAdd, Int.reduceSub, Int.reduceMul, Int.toNat_natCast, reduceCtorEq, decide_true, decide_false, IntWalk.i64_in, IntWalk.u64_in, IntWalk.u8_in, a1, a2, a3, a7, a8, ho3, ho13]
    refine ⟨.inr rfl, ?_⟩
    simp only [Tryd.f42]
    simp (disch := omega) only [go_sem, ↓IntWalk.iteOmega, IntWalk.toNatUp, Nat.reduceEqDiff, Nat.reduceAdd, Nat.reduceMul, Nat.reduceSub, Nat.reduceLT, Nat.reduceLeDiff, Int.reduceToNat, Int.reduceLT, Int.reduceLE, Int.reduceEq, Int.reduceAdd, Int.reduceSub, Int.reduceMul, Int.toNat_natCast, reduceCtorEq, decide_true, decide_false, IntWalk.i64_in, IntWalk.u64_in, IntWalk.u8_in, hoi, htk, ho13]
    rw [slB, hoi]
/-! ### leaves of no step -/
theorem ends_leaf (w : List Int) (k : Int) (hk : k = 2 ∨ k = 3) (b : List Bool) (hb : b.length ≤ 1000001) (X : FuncId → List AV → Option AV) :
    WP (EX md0 X) noR 10000010 nzE (Tryd.f42.body.getD .skip) (begin_ [nodeV (.mk k 0 0 0 []), slI w, slB b]) (fun _ => none) 0 (finE (slB (endB (Mt w (.mk k 0 0 0 [])) b))) := by
  have hz := rep_bool b.length
  simp only [Tryd.f42, Option.getD_some, nodeV, cNd_mk]
  rcases hk with rfl | rfl
  · have e : endB (Mt w (.mk 2 0 0 0 [])) b = List.replicate b.length false := by
      rw [← endB_false]
      exact endB_congr (fun i j => by rw [Mt_eq]; simp)
    have htk : (cB (List.replicate b.length false)).take b.length = cB (List.replicate b.length false) := take_len (by simp [cB])
    rw [e]
    simp (disch := omega) only [go_sem, ↓IntWalk.iteOmega, IntWalk.toNatUp, Nat.reduceEqDiff, Nat.reduceAdd, Nat.reduceMul, Nat.reduceSub, Nat.reduceLT, Nat.reduceLeDiff, Int.reduceToNat, Int.reduceLT, Int.reduceLE, Int.reduceEq, Int.reduceAdd, Int.reduceSub, Int.reduceMul, Int.toNat_natCast, reduceCtorEq, decide_true, decide_false, IntWalk.i64_in, IntWalk.u64_in, IntWalk.u8_in, hz]
    refine ⟨.inr rfl, ?_⟩
    simp only [Tryd.f42]
    simp (disch := omega) only [go_sem, ↓IntWalk.iteOmega, IntWalk.toNatUp, Nat.reduceEqDiff, Nat.reduceAdd, Nat.reduceMul, Nat.reduceSub, Nat.reduceLT, Nat.reduceLeDiff, Int.reduceToNat, Int.reduceLT, Int.reduceLE, Int.reduceEq, Int.reduceAdd, Int.reduceSub, Int.reduceMul, Int.toNat_natCast, reduceCtorEq, decide_true, decide_false, IntWalk.i64_in, IntWalk.u64_in, IntWalk.u8_in, htk]
    rw [slB, List.length_replicate]
  · have e : endB (Mt w (.mk 3 0 0 0 [])) b = b := (endB_congr (fun i j => by rw [Mt_eq]; simp)).trans (endB_id b)
    rw [e]
    simp (disch := omega) only [go_sem, ↓IntWalk.iteOmega, IntWalk.toNatUp, Nat.reduceEqDiff, Nat.reduceAdd, Nat.reduceMul, Nat.reduceSub, Nat.reduceLT, Nat.reduceLeDiff, Int.reduceToNat, Int.reduceLT, Int.reduceLE, Int.reduceEq, Int.reduceAdd, Int.reduceSub, Int.reduceMul, Int.toNat_natCast, reduceCtorEq, decide_true, decide_false, IntWalk.i64_in, IntWalk.u64_in, IntWalk.u8_in, hz]
    refine ⟨.inr rfl, ?_⟩
    simp only [Tryd.f42]
    simp (disch := omega) only [go_sem, ↓IntWalk.iteOmega, IntWalk.toNatUp, Nat.reduceEqDiff, Nat.reduceAdd, Nat.reduceMul, Nat.reduceSub, Nat.reduceLT, Nat.reduceLeDiff, Int.reduceToNat, Int.reduceLT, Int.reduceLE, Int.reduceEq, Int.reduceAdd, Int.reduceSub, Int.reduceMul, Int.toNat_natCast, reduceCtorEq, decide_true, decide_false, IntWalk.i64_in, IntWalk.u64_in, IntWalk.u8_in]
/-! ### joins, unions -/
theorem mtJ_snoc (w : List Int) (x : Nd) : ∀ (l : List Nd) (i j : Nat), MtJ w (l ++ [x]) i j ↔ ∃ k, MtJ w l i k ∧ Mt w x k j
  | [], i, j => by
    rw [List.nil_append, MtJ, MtJ, MtJ]
    exact ⟨fun ⟨k, h1, h2⟩ => ⟨i, rfl, by obtain rfl : k = j := h2; exact h1⟩, fun ⟨k, h1, h2⟩ => ⟨j, by obtain rfl : i = k := h1; exact h2, rfl⟩⟩
  | y :: l, i, j => by
    rw [List.cons_append, MtJ, MtJ]
    constructor
    · rintro ⟨k, h1, h2⟩
      obtain ⟨k', h3, h4⟩ := (mtJ_snoc w x l k j).1 h2
      exact ⟨k', ⟨k, h1, h3⟩, h4⟩
    · rintro ⟨k', ⟨k, h1, h3⟩, h4⟩
      exact ⟨k, h1, (mtJ_snoc w x l k j).2 ⟨k', h3, h4⟩⟩
theorem mtU_snoc (w : List Int) (x : Nd) : ∀ (l : List Nd) (i j : Nat), MtU w (l ++ [x]) i j ↔ MtU w l i j ∨ Mt w x i j
  | [], i, j => by rw [List.nil_append, MtU, MtU]; exact or_comm
  | y :: l, i, j => by
    rw [List.cons_append, MtU, MtU]
    show (Mt w y i j ∨ MtU w (l ++ [x]) i j) ↔ (Mt w y i j ∨ MtU w l i j) ∨ Mt w x i j
    rw [mtU_snoc w x l]
    exact or_assoc.symm
theorem mtJ_le (w : List Int) : ∀ (l : List Nd) (i j : Nat), MtJ w l i j → i ≤ w.length → j ≤ w.length
  | [], i, j, h, hi => by rw [MtJ] at h; obtain rfl : i = j := h; exact hi
  | x :: l, i, j, h, hi => by
    rw [MtJ] at h
    obtain ⟨k, h1, h2⟩ := h
    exact mtJ_le w l k j h2 (Mt_le w x i k h1 hi)
theorem ends_join (w : List Int) (hw : w.length ≤ 1000000) (l : List Nd) (hl : l.length ≤ 1000) (b : List Bool) (hb : b.length = w.length + 1) (X : FuncId → List AV → Option AV) (hch : ∀ i, i < l.length → ∀ c : List Bool, c.length = w.length + 1 → X 42 [nodeV (l.getD i default), slI w, slB c] = some (slB (endB (Mt w (l.getD i default)) c))) :
    WP (EX md0 X) noR 10000010 nzE (Tryd.f42.body.getD .skip) (begin_ [nodeV (.mk 4 0 0 0 l), slI w, slB b]) (fun _ => none) 0 (finE (slB (endB (Mt w (.mk 4 0 0 0 l)) b))) := by
  have hz := rep_bool b.length
  have e0 : endB (MtJ w []) b = b := (endB_congr (fun i j => by rw [MtJ])).trans (endB_id b)
  have e1 : endB (Mt w (.mk 4 0 0 0 l)) b = endB (MtJ w l) b := endB_congr (fun i j => by rw [Mt_eq]; simp)
  rw [e1]
  simp only [Tryd.f42, Option.getD_some, nodeV, cNd_mk]
  simp (disch := omega) only [go_sem, ↓IntWalk.iteOmega, IntWalk.toNatUp, Nat.reduceEqDiff, Nat.reduceAdd, Nat.reduceMul, Nat.reduceSub, Nat.reduceLT, Nat.reduceLeDiff, Int.reduceToNat, Int.reduceLT, Int.reduceLE, Int.reduceEq, Int.reduceAdd, Int.reduceSub, Int.reduceMul, Int.toNat_natCast, reduceCtorEq, decide_true, decide_false, IntWalk.i64_in, IntWalk.u64_in, IntWalk.u8_in, hz]
  refine WP_loop (fun m a o nx => ∃ i : Nat, i ≤ l.length ∧ m = l.length - i ∧ 2 ≤ nx ∧ a 1 = slI w ∧ a 3 = .ptr (0, 3) (0, 3) 0 ∧ a 7 = slB (endB (MtJ w (l.take i)) b) ∧ a 9 = .int .i64 i ∧ o (0, 3) = some (.row ⟨54, 1, (0, 3), false, true, [.int .i64 4, .int .i64 0, .int .i64 0, .int .i64 0, slN l]⟩)) l.length (by omega) ⟨0, by omega, by omega, by omega, by simp (disch := omega) only [go_sem, ↓IntWalk.iteOmega, IntWalk.toNatUp, Nat.reduceEqDiff, Nat.reduceAdd, Nat.reduceMul, Nat.reduceSub, Nat.reduceLT, Nat.reduceLeDiff, Int.reduceToNat, Int.reduceLT, Int.reduceLE, Int.reduceEq, Int.reduceAdd, Int.reduceSub, Int.reduceMul, Int.toNat_natCast, reduceCtorEq, decide_true, decide_false, IntWalk.i64_in, IntWalk.u64_in, IntWalk.u8_in], by simp (disch := omega) only [go_sem, ↓IntWalk.iteOmega, IntWalk.toNatUp, Nat.reduceEqDiff, Nat.reduceAdd, Nat.reduceMul, Nat.reduceSub, Nat.reduceLT, Nat.reduceLeDiff, Int.reduceToNat, Int.reduceLT, Int.reduceLE, Int.reduceEq, Int.reduceAdd, Int.reduceSub, Int.reduceMul, Int.toNat_natCast, reduceCtorEq, decide_true, decide_false, IntWalk.i64_in, IntWalk.u64_in, IntWalk.u8_in], by simp (disch := omega) only [go_sem, ↓IntWalk.iteOmega, IntWalk.toNatUp, Nat.reduceEqDiff, Nat.reduceAdd, Nat.reduceMul, Nat.reduceSub, Nat.reduceLT, Nat.reduceLeDiff, Int.reduceToNat, Int.reduceLT, Int.reduceLE, Int.reduceEq, Int.reduceAdd, Int.reduceSub, Int.reduceMul, Int.toNat_natCast, reduceCtorEq, decide_true, decide_false, IntWalk.i64_in, IntWalk.u64_in, IntWalk.u8_in]; rw [e0], by simp (disch := omega) only [go_sem, ↓IntWalk.iteOmega, IntWalk.toNatUp, Nat.reduceEqDiff, Nat.reduceAdd, Nat.reduceMul, Nat.reduceSub, Nat.reduceLT, Nat.reduceLeDiff, Int.reduceToNat, Int.reduceLT, Int.reduceLE, Int.reduceEq, Int.reduceAdd, Int.reduceSub, Int.reduceMul, Int.toNat_natCast, reduceCtorEq, decide_true, decide_false, IntWalk.i64_in, IntWalk.u64_in, IntWalk.u8_in], by simp (disch := omega) only [go_sem, ↓IntWalk.iteOmega, IntWalk.toNatUp, Nat.reduceEqDiff, Nat.reduceAdd, Nat.reduceMul, Nat.reduceSub, Nat.reduceLT, Nat.reduceLeDiff, Int.reduceToNat, Int.reduceLT, Int.reduceLE, Int.reduceEq, Int.reduceAdd, Int.reduceSub, Int.reduceMul, Int.toNat_natCast, reduceCtorEq, decide_true, decide_false, IntWalk.i64_in, IntWalk.u64_in, IntWalk.u8_in]⟩ ?_
  rintro m a o nx ⟨i, hi, rfl, hnx, a1, a3, a7, a9, ho⟩
  by_cases hlt : i < l.length
  · have hat := cNds_at hlt
    have hl1 : (endB (MtJ w (l.take i)) b).length = b.length := endB_length _ _
    have hci := hch i hlt _ (hl1.trans hb)
    rw [endB_comp (fun i k hm hi => by have := mtJ_le w _ i k hm (by omega); omega)] at hci
    have hsn : endB (MtJ w (l.take (i + 1))) b = endB (fun p q => ∃ k, MtJ w (l.take i) p k ∧ Mt w (l.getD i default) k q) b := by
      rw [take_succ_getD hlt default]
      exact endB_congr (fun p q => mtJ_snoc w _ _ p q)
    rw [← hsn] at hci
    simp only [nodeV] at hci
    clear hsn
    generalize l.getD i default = x at *
    simp (disch := omega) only [go_sem, ↓IntWalk.iteOmega, IntWalk.toNatUp, Nat.reduceEqDiff, Nat.reduceAdd, Nat.reduceMul, Nat.reduceSub, Nat.reduceLT, Nat.reduceLeDiff, Int.reduceToNat, Int.reduceLT, Int.reduceLE, Int.reduceEq, Int.reduceAdd, Int.reduceSub, Int.reduceMul, Int.toNat_natCast, reduceCtorEq, decide_true, decide_false, IntWalk.i64_in, IntWalk.u64_in, IntWalk.u8_in, a1, a3, a7, a9, ho, hat, hci]
    exact ⟨_, by omega, i + 1, by omega, rfl, rfl, rfl⟩
  · have hie : i = l.length := by omega
    rw [hie, List.take_length] at a7
    simp (disch := omega) only [go_sem, ↓IntWalk.iteOmega, IntWalk.toNatUp, Nat.reduceEqDiff, Nat.reduceAdd, Nat.reduceMul, Nat.reduceSub, Nat.reduceLT, Nat.reduceLeDiff, Int.reduceToNat, Int.reduceLT, Int.reduceLE, Int.reduceEq, Int.reduceAdd, Int.reduceSub, Int.reduceMul, Int.toNat_natCast, reduceCtorEq, decide_true, decide_false, IntWalk.i64_in, IntWalk.u64_in, IntWalk.u8_in, a1, a3, a7, a9, ho]
    refine ⟨.inr rfl, ?_⟩
    simp only [Tryd.f42]
    simp (disch := omega) only [go_sem, ↓IntWalk.iteOmega, IntWalk.toNatUp, Nat.reduceEqDiff, Nat.reduceAdd, Nat.reduceMul, Nat.reduceSub, Nat.reduceLT, Nat.reduceLeDiff, Int.reduceToNat, Int.reduceLT, Int.reduceLE, Int.reduceEq, Int.reduceAdd, Int.reduceSub, Int.reduceMul, Int.toNat_natCast, reduceCtorEq, decide_true, decide_false, IntWalk.i64_in, IntWalk.u64_in, IntWalk.u8_in]
theorem ends_union (w : List Int) (hw : w.length ≤ 1000000) (l : List Nd) (h0 : l ≠ []) (hl : l.length ≤ 1000) (b : List Bool) (hb : b.length = w.length + 1) (X : FuncId → List AV → Option AV) (hch : ∀ i, i < l.length → ∀ c : List Bool, c.length = w.length + 1 → X 42 [nodeV (l.getD i default), slI w, slB c] = some (slB (endB (Mt w (l.getD i default)) c)))
    (hboth : ∀ a c : List Bool, c.length = a.length → a.length ≤ 10000000 → X 54 [slB a, slB c] = some (.tup [slB (orB a c), .bool (moreB a c)])) :
    WP (EX md0 X) noR 10000010 nzE (Tryd.f42.body.getD .skip) (begin_ [nodeV (.mk 5 0 0 0 l), slI w, slB b]) (fun _ => none) 0 (finE (slB (endB (Mt w (.mk 5 0 0 0 l)) b))) := by
  have hz := rep_bool b.length
  have e0 : endB (MtU w []) b = List.replicate b.length false := (endB_congr (fun i j => by rw [MtU])).trans (endB_false b)
  have e1 : endB (Mt w (.mk 5 0 0 0 l)) b = endB (MtU w l) b := endB_congr (fun i j => by rw [Mt_eq]; simp)
  have hlp : l.length ≠ 0 := fun e => h0 (List.length_eq_zero_iff.1 e)
  have htk : (cB (List.replicate b.length false)).take b.length = cB (List.replicate b.length false) := take_len (by simp [cB])
  have hlr : (List.replicate b.length false).length = b.length := List.length_replicate
  rw [e1]
  simp only [Tryd.f42, Option.getD_some, nodeV, cNd_mk]
  simp (disch := omega) only [go_sem, ↓IntWalk.iteOmega, IntWalk.toNatUp, Nat.reduceEqDiff, Nat.reduceAdd, Nat.reduceMul, Nat.reduceSub, Nat.reduceLT, Nat.reduceLeDiff, Int.reduceToNat, Int.reduceLT, Int.reduceLE, Int.reduceEq, Int.reduceAdd, Int.reduceSub, Int.reduceMul, Int.toNat_natCast, reduceCtorEq, decide_true, decide_false, IntWalk.i64_in, IntWalk.u64_in, IntWalk.u8_in, hz]
  refine WP_loop (fun m a o nx => ∃ i : Nat, i ≤ l.length ∧ m = l.length - i ∧ 2 ≤ nx ∧ a 1 = slI w ∧ a 2 = slB b ∧ a 3 = .ptr (0, 3) (0, 3) 0 ∧ ((0 < i ∧ a 7 = slB (endB (MtU w (l.take i)) b)) ∨ (i = 0 ∧ a 7 = .ref (1, 13) (1, 13) 0 b.length ∧ o (1, 13) = some (.row ⟨4, 1, (1, 13), false, true, cB (List.replicate b.length false)⟩))) ∧ a 10 = .int .i64 i ∧ o (0, 3) = some (.row ⟨54, 1, (0, 3), false, true, [.int .i64 5, .int .i64 0, .int .i64 0, .int .i64 0, slN l]⟩)) l.length (by omega) ⟨0, by omega, by omega, by omega, by simp (disch := omega) only [go_sem, ↓IntWalk.iteOmega, IntWalk.toNatUp, Nat.reduceEqDiff, Nat.reduceAdd, Nat.reduceMul, Nat.reduceSub, Nat.reduceLT, Nat.reduceLeDiff, Int.reduceToNat, Int.reduceLT, Int.reduceLE, Int.reduceEq, Int.reduceAdd, Int.reduceSub, Int.reduceMul, Int.toNat_natCast, reduceCtorEq, decide_true, decide_false, IntWalk.i64_in, IntWalk.u64_in, IntWalk.u8_in], by simp (disch := omega) only [go_sem, ↓IntWalk.iteOmega, IntWalk.toNatUp, Nat.reduceEqDiff, Nat.reduceAdd, Nat.reduceMul, Nat.reduceSub, Nat.reduceLT, Nat.reduceLeDiff, Int.reduceToNat, Int.reduceLT, Int.reduceLE, Int.reduceEq, Int.reduceAdd, Int.reduceSub, Int.reduceMul, Int.toNat_natCast, reduceCtorEq, decide_true, decide_false, IntWalk.i64_in, IntWalk.u64_in, IntWalk.u8_in], by simp (disch := omega) only [go_sem, ↓IntWalk.iteOmega, IntWalk.toNatUp, Nat.reduceEqDiff, Nat.reduceAdd, Nat.reduceMul, Nat.reduceSub, Nat.reduceLT, Nat.reduceLeDiff, Int.reduceToNat, Int.reduceLT, Int.reduceLE, Int.reduceEq, Int.reduceAdd, Int.reduceSub, Int.reduceMul, Int.toNat_natCast, reduceCtorEq, decide_true, decide_false, IntWalk.i64_in, IntWalk.u64_in, IntWalk.u8_in], .inr ⟨rfl, by simp (disch := omega) only [go_sem, ↓IntWalk.iteOmega, IntWalk.toNatUp, Nat.reduceEqDiff, Nat.reduceAdd, Nat.reduceMul, Nat.reduceSub, Nat.reduceLT, Nat.reduceLeDiff, Int.reduceToNat, Int.reduceLT, Int.reduceLE, Int.reduceEq, Int.reduceAdd, Int.reduceSub, Int.reduceMul, Int.toNat_natCast, reduceCtorEq, decide_true, decide_false, IntWalk.i64_in, IntWalk.u64_in, IntWalk.u8_in], by simp (disch := omega) only [go_sem, ↓IntWalk.iteOmega, IntWalk.toNatUp, Nat.reduceEqDiff, Nat.reduceAdd, Nat.reduceMul, Nat.reduceSub, Nat.reduceLT, Nat.reduceLeDiff, Int.reduceToNat, Int.reduceLT, Int.reduceLE, Int.reduceEq, Int.reduceAdd, Int.reduceSub, Int.reduceMul, Int.toNat_natCast, reduceCtorEq, decide_true, decide_false, IntWalk.i64_in, IntWalk.u64_in, IntWalk.u8_in]⟩, by simp (disch := omega) only [go_sem, ↓IntWalk.iteOmega, IntWalk.toNatUp, Nat.reduceEqDiff, Nat.reduceAdd, Nat.reduceMul, Nat.reduceSub, Nat.reduceLT, Nat.reduceLeDiff, Int.reduceToNat, Int.reduceLT, Int.reduceLE, Int.reduceEq, Int.reduceAdd, Int.reduceSub, Int.reduceMul, Int.toNat_natCast, reduceCtorEq, decide_true, decide_false, IntWalk.i64_in, IntWalk.u64_in, IntWalk.u8_in], by simp (disch := omega) only [go_sem, ↓IntWalk.iteOmega, IntWalk.toNatUp, Nat.reduceEqDiff, Nat.reduceAdd, Nat.reduceMul, Nat.reduceSub, Nat.reduceLT, Nat.reduceLeDiff, Int.reduceToNat, Int.reduceLT, Int.reduceLE, Int.reduceEq, Int.reduceAdd, Int.reduceSub, Int.reduceMul, Int.toNat_natCast, reduceCtorEq, decide_true, decide_false, IntWalk.i64_in, IntWalk.u64_in, IntWalk.u8_in]⟩ ?_
  rintro m a o nx ⟨i, hi, rfl, hnx, a1, a2, a3, h7, a10, ho⟩
  by_cases hlt : i < l.length
  · have hat := cNds_at hlt
    have hl1 : (endB (MtU w (l.take i)) b).length = b.length := endB_length _ _
    have hl3 : (endB (MtU w (l.take (i + 1))) b).length = b.length := endB_length _ _
    have hl2 : (endB (Mt w (l.getD i default)) b).length = b.length := endB_length _ _
    have hci := hch i hlt _ hb
    have hbo := hboth (endB (MtU w (l.take i)) b) (endB (Mt w (l.getD i default)) b) (by omega) (by omega)
    have hsn : endB (MtU w (l.take (i + 1))) b = endB (fun p q => MtU w (l.take i) p q ∨ Mt w (l.getD i default) p q) b := by
      rw [take_succ_getD hlt default]
      exact endB_congr (fun p q => mtU_snoc w _ _ p q)
    rw [endB_or, ← hsn] at hbo
    generalize moreB (endB (MtU w (l.take i)) b) (endB (Mt w (l.getD i default)) b) = q at hbo
    simp only [nodeV] at hci
    clear hsn
    rcases h7 with ⟨h0, a7⟩ | ⟨rfl, a7, ho7⟩
    · generalize l.getD i default = x at *
      simp (disch := omega) only [go_sem, ↓IntWalk.iteOmega, IntWalk.toNatUp, Nat.reduceEqDiff, Nat.reduceAdd, Nat.reduceMul, Nat.reduceSub, Nat.reduceLT, Nat.reduceLeDiff, Int.reduceToNat, Int.reduceLT, Int.reduceLE, Int.reduceEq, Int.reduceAdd, Int.reduceSub, Int.reduceMul, Int.toNat_natCast, reduceCtorEq, decide_true, decide_false, IntWalk.i64_in, IntWalk.u64_in, IntWalk.u8_in, a1, a2, a3, a7, a10, ho, hat, hci, hbo]
      exact ⟨_, by omega, i + 1, by omega, rfl, ⟨by omega, rfl⟩, rfl⟩
    · rw [List.take_zero, e0] at hbo
      simp only [slB, hlr] at hbo
      generalize l.getD 0 default = x at *
      rw [Nat.zero_mul] at hat
      rw [List.drop_zero] at hat
      simp (disch := omega) only [go_sem, ↓IntWalk.iteOmega, IntWalk.toNatUp, Nat.reduceEqDiff, Nat.reduceAdd, Nat.reduceMul, Nat.reduceSub, Nat.reduceLT, Nat.reduceLeDiff, Int.reduceToNat, Int.reduceLT, Int.reduceLE, Int.reduceEq, Int.reduceAdd, Int.reduceSub, Int.reduceMul, Int.toNat_natCast, reduceCtorEq, decide_true, decide_false, IntWalk.i64_in, IntWalk.u64_in, IntWalk.u8_in, a1, a2, a3, a7, a10, ho, ho7, hat, hci, hbo, htk]
      exact ⟨_, by omega, 1, by omega, rfl, ⟨by omega, rfl⟩, rfl⟩
  · have hie : i = l.length := by omega
    rcases h7 with ⟨h0, a7⟩ | ⟨rfl, a7, ho7⟩
    · rw [hie, List.take_length] at a7
      simp (disch := omega) only [go_sem, ↓IntWalk.iteOmega, IntWalk.toNatUp, Nat.reduceEqDiff, Nat.reduceAdd, Nat.reduceMul, Nat.reduceSub, Nat.reduceLT, Nat.reduceLeDiff, Int.reduceToNat, Int.reduceLT, Int.reduceLE, Int.reduceEq, Int.reduceAdd, Int.reduceSub, Int.reduceMul, Int.toNat_natCast, reduceCtorEq, decide_true, decide_false, IntWalk.i64_in, IntWalk.u64_in, IntWalk.u8_in, a1, a2, a3, a7, a10, ho]
      refine ⟨.inr rfl, ?_⟩
      simp only [Tryd.f42]
      simp (disch := omega) only [go_sem, ↓IntWalk.iteOmega, IntWalk.toNatUp, Nat.reduceEqDiff, Nat.reduceAdd, Nat.reduceMul, Nat.reduceSub, Nat.reduceLT, Nat.reduceLeDiff, Int.reduceToNat, Int.reduceLT, Int.reduceLE, Int.reduceEq, Int.reduceAdd, Int.reduceSub, Int.reduceMul, Int.toNat_natCast, reduceCtorEq, decide_true, decide_false, IntWalk.i64_in, IntWalk.u64_in, IntWalk.u8_in]
    · omega
/-! ### one part -/
def ROft (w : List Int) (x : Nd) (args : List AV) (r : AV) : Prop := ∃ b : List Bool, b.length = w.length + 1 ∧ args = [nodeV x, slI w, slB b, .int .i64 0] ∧ r = slB (endB (plusM (Mt w x)) b)
theorem ROft_fn (w x) : Fun1 (ROft w x) := by
  rintro args r r' ⟨b, _, rfl, rfl⟩ ⟨b', _, h, rfl⟩
  simp only [List.cons.injEq, AV.sl.injEq, and_true, true_and] at h
  rw [cB_inj h.2]
def RRp (w : List Int) (x : Nd) (lo hi : Nat) (args : List AV) (r : AV) : Prop := ∃ b : List Bool, b.length = w.length + 1 ∧ args = [nodeV (.mk 9 0 lo hi [x]), slI w, slB b] ∧ r = slB (endB (repM lo hi (Mt w x)) b)
theorem RRp_fn (w x lo hi) : Fun1 (RRp w x lo hi) := by
  rintro args r r' ⟨b, _, rfl, rfl⟩ ⟨b', _, h, rfl⟩
  simp only [List.cons.injEq, AV.sl.injEq, and_true, true_and] at h
  rw [cB_inj h.2]
theorem mtH_one (w : List Int) (x : Nd) : MtH w [x] = Mt w x := by rw [MtH]
theorem ends_post (w : List Int) (hw : w.length ≤ 1000000) (k : Int) (hk : k = 6 ∨ k = 7 ∨ k = 8) (x : Nd) (b : List Bool) (hb : b.length = w.length + 1) (X : FuncId → List AV → Option AV) (hch : X 42 [nodeV x, slI w, slB b] = some (slB (endB (Mt w x) b)))
    (hboth : ∀ a c : List Bool, c.length = a.length → a.length ≤ 10000000 → X 54 [slB a, slB c] = some (.tup [slB (orB a c), .bool (moreB a c)])) (hoft : X 55 [nodeV x, slI w, slB b, .int .i64 0] = some (slB (endB (plusM (Mt w x)) b))) :
    WP (EX md0 X) noR 10000010 nzE (Tryd.f42.body.getD .skip) (begin_ [nodeV (.mk k 0 0 0 [x]), slI w, slB b]) (fun _ => none) 0 (finE (slB (endB (Mt w (.mk k 0 0 0 [x])) b))) := by
  have hz := rep_bool b.length
  have hat : cNds [x] = cNd x ++ [] := by rw [cNds_one, List.append_nil]
  simp only [nodeV] at hch hoft
  simp only [Tryd.f42, Option.getD_some, nodeV, cNd_mk, slN, List.length_singleton, hat]
  have hl1 : (endB (plusM (Mt w x)) b).length = b.length := endB_length _ _
  have hl2 : (endB (Mt w x) b).length = b.length := endB_length _ _
  rcases hk with rfl | rfl | rfl
  · have e : endB (Mt w (.mk 6 0 0 0 [x])) b = orB b (endB (plusM (Mt w x)) b) := by
      conv => rhs; rw [← endB_id b, endB_id b]
      have := endB_or (fun i j => i = j) (plusM (Mt w x)) b
      rw [endB_id] at this
      rw [this]
      refine endB_congr (fun i j => ?_)
      rw [Mt_eq, if_neg (by decide), if_neg (by decide), if_neg (by decide), if_neg (by decide), if_pos rfl, mtH_one]
      constructor
      · rintro ⟨m, h⟩
        cases m with
        | zero => exact .inl h
        | succ m => exact .inr ⟨m + 1, by omega, h⟩
      · rintro (h | ⟨m, _, h⟩)
        · exact ⟨0, h⟩
        · exact ⟨m, h⟩
    have hbo := hboth b (endB (plusM (Mt w x)) b) (by omega) (by omega)
    rw [← e] at hbo
    generalize moreB b (endB (plusM (Mt w x)) b) = q at hbo
    simp (disch := omega) only [go_sem, ↓IntWalk.iteOmega, IntWalk.toNatUp, Nat.reduceEqDiff, Nat.reduceAdd, Nat.reduceMul, Nat.reduceSub, Nat.reduceLT, Nat.reduceLeDiff, Int.reduceToNat, Int.reduceLT, Int.reduceLE, Int.reduceEq, Int.reduceAdd, Int.reduceSub, Int.reduceMul, Int.toNat_natCast, reduceCtorEq, decide_true, decide_false, IntWalk.i64_in, IntWalk.u64_in, IntWalk.u8_in, hz, hoft, hbo]
    refine ⟨.inr rfl, ?_⟩
    simp only [Tryd.f42]
    simp (disch := omega) only [go_sem, ↓IntWalk.iteOmega, IntWalk.toNatUp, Nat.reduceEqDiff, Nat.reduceAdd, Nat.reduceMul, Nat.reduceSub, Nat.reduceLT, Nat.reduceLeDiff, Int.reduceToNat, Int.reduceLT, Int.reduceLE, Int.reduceEq, Int.reduceAdd, Int.reduceSub, Int.reduceMul, Int.toNat_natCast, reduceCtorEq, decide_true, decide_false, IntWalk.i64_in, IntWalk.u64_in, IntWalk.u8_in]
  · have e : endB (Mt w (.mk 7 0 0 0 [x])) b = endB (plusM (Mt w x)) b := by
      refine endB_congr (fun i j => ?_)
      rw [Mt_eq, if_neg (by decide), if_neg (by decide), if_neg (by decide), if_neg (by decide), if_neg (by decide), if_pos rfl, mtH_one]
      exact Iff.rfl
    rw [← e] at hoft
    simp (disch := omega) only [go_sem, ↓IntWalk.iteOmega, IntWalk.toNatUp, Nat.reduceEqDiff, Nat.reduceAdd, Nat.reduceMul, Nat.reduceSub, Nat.reduceLT, Nat.reduceLeDiff, Int.reduceToNat, Int.reduceLT, Int.reduceLE, Int.reduceEq, Int.reduceAdd, Int.reduceSub, Int.reduceMul, Int.toNat_natCast, reduceCtorEq, decide_true, decide_false, IntWalk.i64_in, IntWalk.u64_in, IntWalk.u8_in, hz, hoft]
    refine ⟨.inr rfl, ?_⟩
    simp only [Tryd.f42]
    simp (disch := omega) only [go_sem, ↓IntWalk.iteOmega, IntWalk.toNatUp, Nat.reduceEqDiff, Nat.reduceAdd, Nat.reduceMul, Nat.reduceSub, Nat.reduceLT, Nat.reduceLeDiff, Int.reduceToNat, Int.reduceLT, Int.reduceLE, Int.reduceEq, Int.reduceAdd, Int.reduceSub, Int.reduceMul, Int.toNat_natCast, reduceCtorEq, decide_true, decide_false, IntWalk.i64_in, IntWalk.u64_in, IntWalk.u8_in]
  · have e : endB (Mt w (.mk 8 0 0 0 [x])) b = orB b (endB (Mt w x) b) := by
      have := endB_or (fun i j => i = j) (Mt w x) b
      rw [endB_id] at this
      rw [this]
      refine endB_congr (fun i j => ?_)
      rw [Mt_eq, if_neg (by decide), if_neg (by decide), if_neg (by decide), if_neg (by decide), if_neg (by decide), if_neg (by decide), if_pos rfl, mtH_one]
      constructor
      · rintro ⟨m, h0, h⟩
        match m, h0, h with
        | 0, _, h => exact .inl h
        | 1, _, ⟨k, h1, h2⟩ => exact .inr (by obtain rfl : k = j := h2; exact h1)
      · rintro (h | h)
        · exact ⟨0, by omega, h⟩
        · exact ⟨1, by omega, j, h, rfl⟩
    have hbo := hboth b (endB (Mt w x) b) (by omega) (by omega)
    rw [← e] at hbo
    generalize moreB b (endB (Mt w x) b) = q at hbo
    simp (disch := omega) only [go_sem, ↓IntWalk.iteOmega, IntWalk.toNatUp, Nat.reduceEqDiff, Nat.reduceAdd, Nat.reduceMul, Nat.reduceSub, Nat.reduceLT, Nat.reduceLeDiff, Int.reduceToNat, Int.reduceLT, Int.reduceLE, Int.reduceEq, Int.reduceAdd, Int.reduceSub, Int.reduceMul, Int.toNat_natCast, reduceCtorEq, decide_true, decide_false, IntWalk.i64_in, IntWalk.u64_in, IntWalk.u8_in, hz, hch, hbo]
    refine ⟨.inr rfl, ?_⟩
    simp only [Tryd.f42]
    simp (disch := omega) only [go_sem, ↓IntWalk.iteOmega, IntWalk.toNatUp, Nat.reduceEqDiff, Nat.reduceAdd, Nat.reduceMul, Nat.reduceSub, Nat.reduceLT, Nat.reduceLeDiff, Int.reduceToNat, Int.reduceLT, Int.reduceLE, Int.reduceEq, Int.reduceAdd, Int.reduceSub, Int.reduceMul, Int.toNat_natCast, reduceCtorEq, decide_true, decide_false, IntWalk.i64_in, IntWalk.u64_in, IntWalk.u8_in]
theorem ends_rep (w : List Int) (hw : w.length ≤ 1000000) (lo hi : Nat) (x : Nd) (b : List Bool) (hb : b.length = w.length + 1) (X : FuncId → List AV → Option AV) (hrep : X 56 [nodeV (.mk 9 0 lo hi [x]), slI w, slB b] = some (slB (endB (repM lo hi (Mt w x)) b))) :
    WP (EX md0 X) noR 10000010 nzE (Tryd.f42.body.getD .skip) (begin_ [nodeV (.mk 9 0 lo hi [x]), slI w, slB b]) (fun _ => none) 0 (finE (slB (endB (Mt w (.mk 9 0 lo hi [x])) b))) := by
  have hz := rep_bool b.length
  have e : endB (Mt w (.mk 9 0 lo hi [x])) b = endB (repM lo hi (Mt w x)) b := by
    refine endB_congr (fun i j => ?_)
    rw [Mt_eq, if_neg (by decide), if_neg (by decide), if_neg (by decide), if_neg (by decide), if_neg (by decide), if_neg (by decide), if_neg (by decide), if_pos rfl, mtH_one]
    exact exists_congr fun m => and_congr (by omega) (and_congr (by omega) Iff.rfl)
  rw [← e] at hrep
  simp only [nodeV, cNd_mk, slN, List.length_singleton, cNds_one] at hrep
  simp only [Tryd.f42, Option.getD_some, nodeV, cNd_mk, slN, List.length_singleton, cNds_one]
  simp (disch := omega) only [go_sem, ↓IntWalk.iteOmega, IntWalk.toNatUp, Nat.reduceEqDiff, Nat.reduceAdd, Nat.reduceMul, Nat.reduceSub, Nat.reduceLT, Nat.reduceLeDiff, Int.reduceToNat, Int.reduceLT, Int.reduceLE, Int.reduceEq, Int.reduceAdd, Int.reduceSub, Int.reduceMul, Int.toNat_natCast, reduceCtorEq, decide_true, decide_false, IntWalk.i64_in, IntWalk.u64_in, IntWalk.u8_in, hz, hrep]
  refine ⟨.inr rfl, ?_⟩
  simp only [Tryd.f42]
  simp (disch := omega) only [go_sem, ↓IntWalk.iteOmega, IntWalk.toNatUp, Nat.reduceEqDiff, Nat.reduceAdd, Nat.reduceMul, Nat.reduceSub, Nat.reduceLT, Nat.reduceLeDiff, Int.reduceToNat, Int.reduceLT, Int.reduceLE, Int.reduceEq, Int.reduceAdd, Int.reduceSub, Int.reduceMul, Int.toNat_natCast, reduceCtorEq, decide_true, decide_false, IntWalk.i64_in, IntWalk.u64_in, IntWalk.u8_in]
/-! ### the contract -/
noncomputable def XE (w : List Int) (l : List Nd) (lo hi : Nat) : FuncId → List AV → Option AV := tabLook [(42, tRel (RKid w l)), (54, tRel RBoth), (55, tRel (ROft w (l.getD 0 default))), (56, tRel (RRp w (l.getD 0 default) lo hi))]
theorem ends_ok (w : List Int) (hw : w.length ≤ 1000000) : ∀ (n : Nd), rightN n = true → wideN n = true → ∀ b : List Bool, b.length = w.length + 1 → Ok Tryd.prog 42 [nodeV n, slI w, slB b] (slB (endB (Mt w n) b))
  | .mk k s lo hi l, hr, hwi, b, hb => by
    obtain ⟨hx, hc⟩ := right_cases hr
    rw [wideN, Bool.and_eq_true, decide_eq_true_eq] at hwi
    have hkids : KidsOk w l := fun i hil c hcl => by
      have := size_at_lt hil k s lo hi
      exact ends_ok w hw (l.getD i default) (hx _ (by rw [List.getD_eq_getElem?_getD, List.getElem?_eq_getElem hil]; exact List.getElem_mem hil)) (wide_at hwi.2 hil) c hcl
    rcases hc with ⟨rfl, rfl, rfl, rfl, h0, h1⟩ | ⟨hk, rfl, rfl, rfl, rfl⟩ | ⟨hk, rfl, rfl, rfl, y1, y2, r, rfl⟩ | ⟨hk, rfl, rfl, rfl, x, rfl⟩ | ⟨rfl, rfl, h0, h1, h2, x, rfl⟩
    · exact ok_of_WP (E := EX md0 (fun _ _ => none)) (cr := noR) (cp_none _) (noR_ok _) mixed (k := 10000010) Tryd.func42 (lookEnds _) rfl (ends_set w hw s b hb _)
    · exact ok_of_WP (E := EX md0 (fun _ _ => none)) (cr := noR) (cp_none _) (noR_ok _) mixed (k := 10000010) Tryd.func42 (lookEnds _) rfl (ends_leaf w k hk b (by omega) _)
    · have hX := XK_ok hkids
      rcases hk with rfl | rfl
      · exact ok_of_WP (E := EX md0 (XK w (y1 :: y2 :: r))) (cr := noR) hX (noR_ok _) mixed (k := 10000010) Tryd.func42 (lookEnds _) rfl (ends_join w hw _ hwi.1 b hb _ (fun i hi c hc => XK_ends hi hc))
      · exact ok_of_WP (E := EX md0 (XK w (y1 :: y2 :: r))) (cr := noR) hX (noR_ok _) mixed (k := 10000010) Tryd.func42 (lookEnds _) rfl (ends_union w hw _ (by simp) hwi.1 b hb _ (fun i hi c hc => XK_ends hi hc) (fun a c => XK_both))
    · have hX : CPSound Tryd.prog (XE w [x] 0 0) := tab_cons (tab_cons (tab_cons (tab_cons (tab_nil _) (tRel_ok (fun args r h' => by obtain ⟨c, h1, rfl, rfl⟩ := h'; exact repeat_ok w hw x hkids 0 0 (by omega) (by omega) c h1))) (tRel_ok (fun args r h' => by obtain ⟨c, h1, rfl, rfl⟩ := h'; exact often_ok w hw x hkids c h1))) (tRel_ok RBoth_ok)) (tRel_ok (fun args r h' => by obtain ⟨i, c, h1, h2, rfl, rfl⟩ := h'; exact hkids i h1 c h2))
      exact ok_of_WP (E := EX md0 (XE w [x] 0 0)) (cr := noR) hX (noR_ok _) mixed (k := 10000010) Tryd.func42 (lookEnds _) rfl (ends_post w hw k hk x b hb _ (tRel_eq (RKid_fn w [x]) ⟨0, b, by simp, hb, rfl, rfl⟩) (fun a c h1 h2 => tRel_eq RBoth_fn ⟨a, c, h1, h2, rfl, rfl⟩) (tRel_eq (ROft_fn w x) ⟨b, hb, rfl, rfl⟩))
    · obtain ⟨lo', rfl⟩ : ∃ n : Nat, lo = n := ⟨lo.toNat, by omega⟩
      obtain ⟨hi', rfl⟩ : ∃ n : Nat, hi = n := ⟨hi.toNat, by omega⟩
      have hX : CPSound Tryd.prog (XE w [x] lo' hi') := tab_cons (tab_cons (tab_cons (tab_cons (tab_nil _) (tRel_ok (fun args r h' => by obtain ⟨c, h1', rfl, rfl⟩ := h'; exact repeat_ok w hw x hkids lo' hi' (by omega) (by omega) c h1'))) (tRel_ok (fun args r h' => by obtain ⟨c, h1, rfl, rfl⟩ := h'; exact often_ok w hw x hkids c h1))) (tRel_ok RBoth_ok)) (tRel_ok (fun args r h' => by obtain ⟨i, c, h1, h2, rfl, rfl⟩ := h'; exact hkids i h1 c h2))
      exact ok_of_WP (E := EX md0 (XE w [x] lo' hi')) (cr := noR) hX (noR_ok _) mixed (k := 10000010) Tryd.func42 (lookEnds _) rfl (ends_rep w hw lo' hi' x b hb _ (tRel_eq (RRp_fn w x lo' hi') ⟨b, hb, rfl, rfl⟩))
termination_by n => SizeOf.sizeOf n
decreasing_by
  exact this
/-! ### Match -/
theorem lookMatch (X) : lookedAt (EX md0 X) (fun r => if r = 1 then some [(0, 5)] else none) 2 Tryd.f27 = true := by kernel_rfl
open Classical in
noncomputable def matchN (n : Nd) (w : List Int) : Bool := decide (Mt w n 0 w.length)
def REnd (n : Nd) (w : List Int) (args : List AV) (r : AV) : Prop := ∃ b : List Bool, b.length = w.length + 1 ∧ args = [nodeV n, slI w, slB b] ∧ r = slB (endB (Mt w n) b)
theorem REnd_fn (n w) : Fun1 (REnd n w) := by
  rintro args r r' ⟨b, _, rfl, rfl⟩ ⟨b', _, h, rfl⟩
  simp only [List.cons.injEq, AV.sl.injEq, and_true, true_and] at h
  rw [cB_inj h.2]
def ROn5 (args : List AV) (r : AV) : Prop := ∃ n : Nat, 0 < n ∧ n ≤ 10000000 ∧ args = [.int .i64 n, .int .i64 0] ∧ r = slB (oneB n)
theorem ROn5_fn : Fun1 ROn5 := by
  rintro args r r' ⟨n, _, _, rfl, rfl⟩ ⟨n', _, _, h, rfl⟩
  simp only [List.cons.injEq, AV.int.injEq, and_true, true_and] at h
  have : n = n' := by omega
  rw [this]
theorem match_ok (n : Nd) (w : List Int) (hr : rightN n = true) (hwi : wideN n = true) (hw : w.length ≤ 1000000) : Ok Tryd.prog 27 [nodeV n, slI w] (.bool (matchN n w)) := by
  refine ok_of_WP (E := EX md0 (tabLook [(42, tRel (REnd n w)), (43, tRel ROn5)])) (cr := noR) (tab_cons (tab_cons (tab_nil _) (tRel_ok (fun args r h => by obtain ⟨m, h1, h2, rfl, rfl⟩ := h; exact one5_ok m h1 h2))) (tRel_ok (fun args r h => by obtain ⟨b, h1, rfl, rfl⟩ := h; exact ends_ok w hw n hr hwi b h1))) (noR_ok _) mixed (k := 10) Tryd.func27 (lookMatch _) rfl ?_
  have hol : (oneB (w.length + 1)).length = w.length + 1 := by simp [oneB]
  have e1 : tabLook [(42, tRel (REnd n w)), (43, tRel ROn5)] 43 [.int .i64 ((w.length + 1 : Nat) : Int), .int .i64 0] = some (slB (oneB (w.length + 1))) := tRel_eq ROn5_fn ⟨w.length + 1, by omega, by omega, rfl, rfl⟩
  have e2 : tabLook [(42, tRel (REnd n w)), (43, tRel ROn5)] 42 [nodeV n, slI w, slB (oneB (w.length + 1))] = some (slB (endB (Mt w n) (oneB (w.length + 1)))) := tRel_eq (REnd_fn n w) ⟨_, hol, rfl, rfl⟩
  have e3 : ((w.length + 1 : Nat) : Int) = (w.length : Int) + 1 := by omega
  rw [e3] at e1
  have hel : (endB (Mt w n) (oneB (w.length + 1))).length = w.length + 1 := by rw [endB_length, hol]
  have hone : ∀ i, (oneB (w.length + 1)).getD i false = true ↔ i = 0 := fun i => by
    rw [oneB, getD_setB]
    split
    · rename_i h; exact ⟨fun _ => h.1.symm, fun _ => rfl⟩
    · rename_i h
      have : (List.replicate (w.length + 1) false).getD i false = false := by
        rw [List.getD_eq_getElem?_getD, List.getElem?_replicate]
        split <;> rfl
      rw [this]
      constructor
      · intro h'; cases h'
      · rintro rfl
        exact absurd ⟨rfl, by simp⟩ h
  have hget := cB_get (l := endB (Mt w n) (oneB (w.length + 1))) (i := w.length) (s := 1) (by omega)
  have hm : (endB (Mt w n) (oneB (w.length + 1))).getD w.length false = matchN n w := by
    classical
    rw [Bool.eq_iff_iff, endB_get, hol, matchN, decide_eq_true_eq]
    constructor
    · rintro ⟨_, i, h1, h2⟩
      rw [hone] at h1
      subst h1
      exact h2
    · exact fun h => ⟨by omega, 0, (hone 0).2 rfl, h⟩
  rw [hm] at hget
  obtain ⟨k, s, lo, hi, l⟩ := n
  simp only [nodeV, cNd_mk] at e2
  simp only [Tryd.f27, Option.getD_some, nodeV, cNd_mk]
  generalize endB (Mt w (.mk k s lo hi l)) (oneB (w.length + 1)) = R at *
  generalize oneB (w.length + 1) = O at *
  have n1 : (1 : Nat) = 1 := rfl
  simp (disch := omega) only [go_sem, ↓IntWalk.iteOmega, IntWalk.toNatUp, Nat.reduceEqDiff, Nat.reduceAdd, Nat.reduceMul, Nat.reduceSub, Nat.reduceLT, Nat.reduceLeDiff, Int.reduceToNat, Int.reduceLT, Int.reduceLE, Int.reduceEq, Int.reduceAdd, Int.reduceSub, Int.reduceMul, Int.toNat_natCast, reduceCtorEq, decide_true, decide_false, IntWalk.i64_in, IntWalk.u64_in, IntWalk.u8_in, e1, e2, hget, hel]
end Go.Proofs.YthhfjjnhkifbfaaDoor.A
/- A, part 32: loops, round by round. -/
namespace Go.Proofs.YthhfjjnhkifbfaaDoor.A
open Go
section
variable (E : Env) (cr : CallR) (k : Nat) (nz : Nat → Option (List (Nat × Nat)))
/-- A loop of n rounds at most. -/
def WPL (n : Nat) (c : Code) (a : AAct) (o : Ob) (nx : Nat) (Q : WPost) : Prop :=
  match iter (evalP E (fun _ _ => none) cr k nz none c) n a ⟨o, nx⟩ with
  | some (u, a', H') => Q u a' H'.o H'.nx
  | none => False
def loopQ (n : Nat) (c : Code) (Q : WPost) : WPost := fun u a o nx => match u with
  | .normal => WPL E cr k nz n c a o nx Q
  | u => Q u a o nx
end
section
variable {E : Env} {cr : CallR} {k : Nat} {nz : Nat → Option (List (Nat × Nat))}
theorem loopQ_normal (n c) (Q : WPost) (a o nx) : loopQ E cr k nz n c Q .normal a o nx = WPL E cr k nz n c a o nx Q := rfl
theorem loopQ_ret (n c) (Q : WPost) (a o nx) : loopQ E cr k nz n c Q .ret a o nx = Q .ret a o nx := rfl
theorem loopQ_exit (n c) (Q : WPost) (i a o nx) : loopQ E cr k nz n c Q (.exit i) a o nx = Q (.exit i) a o nx := rfl
theorem loopQ_goto (n c) (Q : WPost) (i a o nx) : loopQ E cr k nz n c Q (.goto i) a o nx = Q (.goto i) a o nx := rfl
theorem WPL_succ (n : Nat) (c : Code) (a o nx) (Q : WPost) : WPL E cr k nz (n + 1) c a o nx Q = WP E cr k nz c a o nx (loopQ E cr k nz n c Q) := by
  unfold WPL WP
  simp only [iter]
  cases evalP E (fun _ _ => none) cr k nz none c a ⟨o, nx⟩ with
  | none => rfl
  | some p =>
    obtain ⟨u, a', H'⟩ := p
    cases u <;> rfl
theorem WP_loop_eq (c : Code) (a o nx) (Q : WPost) : WP E cr k nz (.loop c) a o nx Q = WPL E cr k nz k c a o nx Q := by
  unfold WPL WP
  simp only [evalP]
  all_goals rfl
end
end Go.Proofs.YthhfjjnhkifbfaaDoor.A
