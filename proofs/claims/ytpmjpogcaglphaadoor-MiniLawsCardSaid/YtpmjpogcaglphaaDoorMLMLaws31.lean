/- What is written of a right expression is read as it was. -/
import Derived.Lib.Join
import Derived.Test.YtpmjpogcaglphaaDoorMLMLaws16
set_option linter.unusedVariables false
set_option linter.unusedSimpArgs false
set_option linter.unnecessarySimpa false
namespace Go.Proofs.YtpmjpogcaglphaaDoor.A
open Go
set_option maxRecDepth 20000
def bf1 (k lo hi : Int) : List UInt8 := if k = 6 then [42] else if k = 7 then [43] else if k = 8 then [63] else [123, dig lo.toNat, 44, dig hi.toNat, 125]
def bM6 (b : Bool) (t : List UInt8) : List UInt8 := if b then 40 :: t ++ [41] else t
mutual
def j7 (w : Int) : Nd → List UInt8
 | .mk k s lo hi l => if k = 1 then br6 s.toNat else if k = 2 then [48] else if k = 3 then [95]
  else if k = 4 ∨ k = 5 then bM6 (decide (w ≠ 0 ∧ (k = 5 ∨ w ≠ 5))) (Lib.join (p7 k l) (if k = 5 then [124] else []))
  else (p7 k l).headD [] ++ bf1 k lo hi
def p7 (w : Int) : List Nd → List (List UInt8)
 | [] => []
 | x :: l => j7 w x :: p7 w l
end
theorem aw7 (w : Int) (l : List Nd) : p7 w l = l.map (j7 w) := by
 induction l with
 | nil => rw [p7]; rfl
 | cons x l ih => rw [p7, ih, List.map_cons]
mutual
def bd : Nd → Nat
 | .mk k _ _ _ l => if k = 4 then 1 + bds l else if k = 5 then 1 + bI5 l else bds l
def bd5 : Nd → Nat
 | .mk k _ _ _ l => if k = 4 then bds l else if k = 5 then 1 + bI5 l else bds l
def bds : List Nd → Nat
 | [] => 0
 | x :: l => max (bd x) (bds l)
def bI5 : List Nd → Nat
 | [] => 0
 | x :: l => max (bd5 x) (bI5 l)
end
def bd0 : Nd → Nat
 | .mk k _ _ _ l => if k = 5 then bI5 l else bds l
theorem J2 (t sep : List UInt8) : Lib.join [t] sep = t := by simp [Lib.join, List.intercalate]
theorem B1 (t u : List UInt8) (l : List (List UInt8)) (sep : List UInt8) : Lib.join (t :: u :: l) sep = t ++ (sep ++ Lib.join (u :: l) sep) := by simp [Lib.join, List.intercalate]
theorem aq9 (l : List (List UInt8)) : Lib.join l [] = l.flatten := by
 induction l with
 | nil => rfl
 | cons t l ih =>
  cases l with
  | nil => simp [J2]
  | cons u l => rw [B1, ih]; rfl
def ag1 (n : Nd) : Prop := ∀ (w : Int), w = 4 ∨ 6 ≤ w → ∀ s a U J B, TAt s a (j7 w n) → B.length + bd n ≤ 30 → pG s a U J B = pG s (a + (j7 w n).length) U (J ++ [n]) B
theorem aX5 {l : List Nd} (hl : ∀ x ∈ l, ag1 x) {w : Int} (hw : w = 4 ∨ 6 ≤ w) : ∀ {s a U J B}, TAt s a (p7 w l).flatten → B.length + bds l ≤ 30 → pG s a U J B = pG s (a + (p7 w l).flatten.length) U (J ++ l) B := by
 induction l with
 | nil =>
  intro s a U J B h hb
  rw [p7]
  simp
 | cons x l ih =>
  intro s a U J B h hb
  rw [p7, List.flatten_cons] at h ⊢
  rw [bds] at hb
  obtain ⟨h1, h2⟩ := h.app
  rw [hl x List.mem_cons_self w hw s a U J B h1 (by omega), ih (fun y hy => hl y (List.mem_cons_of_mem _ hy)) h2 (by omega), List.append_assoc, List.length_append]
  congr 1
  omega
theorem aJ2 {x : Nd} (hr : B0 x = true) (hp : ag1 x) (hk : ∀ k s lo hi l, x = .mk k s lo hi l → ∀ y ∈ l, ag1 y) {s a U B} (h : TAt s a (j7 5 x)) (hb : B.length + bd5 x ≤ 30) :
  ∃ J', J' ≠ [] ∧ u5 4 J' = x ∧ pG s a U [] B = pG s (a + (j7 5 x).length) U J' B := by
 obtain ⟨k, se, lo, hi, l⟩ := x
 obtain ⟨hx, hc⟩ := y5 hr
 by_cases h4 : k = 4
 ·subst h4
  have hcc : se = 0 ∧ lo = 0 ∧ hi = 0 ∧ ∃ x y r, l = x :: y :: r := by
   rcases hc with h | h | h | h | h
   ·exact absurd h.1 (by decide)
   ·exact absurd h.1 (by decide)
   ·exact h.2
   ·exact absurd h.1 (by decide)
   ·exact absurd h.1 (by decide)
  obtain ⟨rfl, rfl, rfl, y1, y2, r, rfl⟩ := hcc
  have et : j7 5 (.mk 4 0 0 0 (y1 :: y2 :: r)) = (p7 4 (y1 :: y2 :: r)).flatten := by
   rw [j7, if_neg (by decide), if_neg (by decide), if_neg (by decide), if_pos (.inl rfl), if_neg (by decide), aq9]
   rfl
  rw [et] at h ⊢
  rw [bd5, if_pos rfl] at hb
  refine ⟨y1 :: y2 :: r, by simp, rfl, ?_⟩
  exact aX5 (hk _ _ _ _ _ rfl) (.inl rfl) h hb
 ·have et : j7 5 (.mk k se lo hi l) = j7 4 (.mk k se lo hi l) := by
   rw [j7, j7]
   by_cases h5 : k = 5 <;> simp [h4, h5]
  have eb : bd5 (.mk k se lo hi l) = bd (.mk k se lo hi l) := by rw [bd5, bd, if_neg h4, if_neg h4]
  rw [et] at h ⊢
  exact ⟨[.mk k se lo hi l], by simp, rfl, hp 4 (.inl rfl) s a U [] B h (by omega)⟩
theorem aw8 {l : List Nd} (hr : ∀ x ∈ l, B0 x = true) (hp : ∀ x ∈ l, ag1 x) (hk : ∀ x ∈ l, ∀ k s lo hi l', x = .mk k s lo hi l' → ∀ y ∈ l', ag1 y) (hne : l ≠ []) : ∀ {s a U B}, TAt s a (Lib.join (p7 5 l) [124]) → B.length + bI5 l ≤ 30 →
  ∃ U' J', J' ≠ [] ∧ U' ++ [u5 4 J'] = U ++ l ∧ pG s a U [] B = pG s (a + (Lib.join (p7 5 l) [124]).length) U' J' B := by
 induction l with
 | nil => exact absurd rfl hne
 | cons x l ih =>
  intro s a U B h hb
  rw [bI5] at hb
  have hx := List.mem_cons_self (a := x) (l := l)
  cases l with
  | nil =>
   rw [p7, p7, J2] at h ⊢
   obtain ⟨J', h1, h2, h3⟩ := aJ2 (hr x hx) (hp x hx) (hk x hx) (U := U) (B := B) h (by omega)
   exact ⟨U, J', h1, by rw [h2], h3⟩
  | cons y l =>
   have e : Lib.join (p7 5 (x :: y :: l)) [124] = j7 5 x ++ (124 :: Lib.join (p7 5 (y :: l)) [124]) := by
    rw [p7, p7, B1]; rfl
   rw [e] at h ⊢
   obtain ⟨g1, g2⟩ := h.app
   obtain ⟨J', h1, h2, h3⟩ := aJ2 (hr x hx) (hp x hx) (hk x hx) (U := U) (B := B) g1 (by omega)
   obtain ⟨_, g3⟩ := g2.cons
   obtain ⟨U'', J'', h4, h5, h6⟩ := ih (fun z hz => hr z (List.mem_cons_of_mem _ hz)) (fun z hz => hp z (List.mem_cons_of_mem _ hz)) (fun z hz => hk z (List.mem_cons_of_mem _ hz)) (by simp) (U := U ++ [u5 4 J']) (B := B) g3 (by omega)
   refine ⟨U'', J'', h4, by rw [h5, h2]; simp, ?_⟩
   rw [h3, br8 g2 h1, h6, List.length_append, List.length_cons]
   congr 1
   omega
theorem bf2 {n : Nd} (hr : B0 n = true) (hp : ag1 n) (hd : ∀ k s lo hi l, n = .mk k s lo hi l → (∀ y ∈ l, ag1 y) ∧ ∀ y ∈ l, ∀ k s lo hi l', y = .mk k s lo hi l' → ∀ z ∈ l', ag1 z) {s a B} (h : TAt s a (j7 0 n)) (hb : B.length + bd0 n ≤ 30) :
  ∃ U' J', J' ≠ [] ∧ u5 5 (U' ++ [u5 4 J']) = n ∧ pG s a [] [] B = pG s (a + (j7 0 n).length) U' J' B := by
 obtain ⟨k, se, lo, hi, l⟩ := n
 obtain ⟨hx, hc⟩ := y5 hr
 obtain ⟨hl, hll⟩ := hd _ _ _ _ _ rfl
 by_cases h45 : k = 4 ∨ k = 5
 ·have hcc : se = 0 ∧ lo = 0 ∧ hi = 0 ∧ ∃ x y r, l = x :: y :: r := by
   rcases hc with h | h | h | h | h
   ·omega
   ·omega
   ·exact h.2
   ·omega
   ·omega
  obtain ⟨rfl, rfl, rfl, y1, y2, r, rfl⟩ := hcc
  rcases h45 with rfl | rfl
  ·have et : j7 0 (.mk 4 0 0 0 (y1 :: y2 :: r)) = (p7 4 (y1 :: y2 :: r)).flatten := by
    rw [j7, if_neg (by decide), if_neg (by decide), if_neg (by decide), if_pos (.inl rfl), if_neg (by decide), aq9]
    rfl
   rw [et] at h ⊢
   rw [bd0, if_neg (by decide)] at hb
   exact ⟨[], y1 :: y2 :: r, by simp, rfl, aX5 hl (.inl rfl) h hb⟩
  ·have et : j7 0 (.mk 5 0 0 0 (y1 :: y2 :: r)) = Lib.join (p7 5 (y1 :: y2 :: r)) [124] := by
    rw [j7, if_neg (by decide), if_neg (by decide), if_neg (by decide), if_pos (.inr rfl), if_pos rfl]
    rfl
   rw [et] at h ⊢
   rw [bd0, if_pos rfl] at hb
   obtain ⟨U', J', h1, h2, h3⟩ := aw8 hx hl hll (by simp) (U := []) h hb
   exact ⟨U', J', h1, by rw [h2]; rfl, h3⟩
 ·have et : j7 0 (.mk k se lo hi l) = j7 4 (.mk k se lo hi l) := by
   rw [j7, j7, if_neg h45, if_neg h45]
  have eb : bd (.mk k se lo hi l) = bd0 (.mk k se lo hi l) := by rw [bd0, bd, if_neg (fun e => h45 (.inl e)), if_neg (fun e => h45 (.inr e)), if_neg (fun e => h45 (.inr e))]
  rw [et] at h ⊢
  exact ⟨[], [.mk k se lo hi l], by simp, rfl, hp 4 (.inl rfl) s a [] [] B h (by omega)⟩
theorem ar0 : ∀ (N : Nat) (n : Nd), SizeOf.sizeOf n < N → B0 n = true → ag1 n
 | 0, n, h, _ => by omega
 | N + 1, .mk k se lo hi l, hN, hr => by
  obtain ⟨hx, hc⟩ := y5 hr
  have hsz : ∀ x ∈ l, SizeOf.sizeOf x < SizeOf.sizeOf (Nd.mk k se lo hi l) := fun x hx => by
   have := List.sizeOf_lt_of_mem hx
   simp only [Nd.mk.sizeOf_spec]
   omega
  have hp : ∀ x ∈ l, ag1 x := fun x h => ar0 N x (by have := hsz x h; omega) (hx x h)
  have hpp : ∀ x ∈ l, ∀ k s lo hi l', x = .mk k s lo hi l' → ∀ y ∈ l', ag1 y := fun x h k s lo hi l' e y hy => by
   have h1 := hsz x h
   have h2 := List.sizeOf_lt_of_mem hy
   have h3 := hx x h
   rw [e] at h1 h3
   have h4 : SizeOf.sizeOf l' < SizeOf.sizeOf (Nd.mk k s lo hi l') := by simp only [Nd.mk.sizeOf_spec]; omega
   exact ar0 N y (by omega) ((y5 h3).1 y hy)
  intro w hw s a U J B h hb
  rcases hc with ⟨rfl, rfl, rfl, rfl, h0, h1⟩ | ⟨hk, rfl, rfl, rfl, rfl⟩ | ⟨hk, rfl, rfl, rfl, y1, y2, r, rfl⟩ | ⟨hk, rfl, rfl, rfl, x, rfl⟩ | ⟨rfl, rfl, h0, h1, h2, x, rfl⟩
  ·rw [j7, if_pos rfl] at h ⊢
   rw [cq1 h (by omega) (by omega), Int.toNat_of_nonneg (by omega)]
  ·rcases hk with rfl | rfl
   ·rw [j7, if_neg (by decide), if_pos rfl] at h ⊢
    rw [ac4 h (by decide)]
    rfl
   ·rw [j7, if_neg (by decide), if_neg (by decide), if_pos rfl] at h ⊢
    rw [ac4 h (by decide)]
    rfl
  ·-- brackets around
   have et : j7 w (.mk k 0 0 0 (y1 :: y2 :: r)) = 40 :: (j7 0 (.mk k 0 0 0 (y1 :: y2 :: r)) ++ [41]) := by
    have : ¬ k = 1 := by omega
    have h2 : ¬ k = 2 := by omega
    have h3 : ¬ k = 3 := by omega
    rw [j7, j7, if_neg this, if_neg h2, if_neg h3, if_pos hk, if_neg this, if_neg h2, if_neg h3, if_pos hk]
    have hd : decide (w ≠ 0 ∧ (k = 5 ∨ w ≠ 5)) = true := decide_eq_true ⟨by omega, by omega⟩
    rw [hd]
    simp [bM6]
   have eb : bd (.mk k 0 0 0 (y1 :: y2 :: r)) = 1 + bd0 (.mk k 0 0 0 (y1 :: y2 :: r)) := by
    rw [bd, bd0]
    rcases hk with rfl | rfl <;> rfl
   rw [et] at h ⊢
   obtain ⟨_, g1⟩ := h.cons
   obtain ⟨g2, g3⟩ := g1.app
   have hpn : ag1 (.mk k 0 0 0 (y1 :: y2 :: r)) → True := fun _ => trivial
   -- the inside is read as a whole; it needs no piece of the node itself
   have hin : ∃ U' J', J' ≠ [] ∧ u5 5 (U' ++ [u5 4 J']) = .mk k 0 0 0 (y1 :: y2 :: r) ∧ pG s (a + 1) [] [] ((U, J) :: B) = pG s (a + 1 + (j7 0 (.mk k 0 0 0 (y1 :: y2 :: r))).length) U' J' ((U, J) :: B) := by
    have hbl : ((U, J) :: B).length + bd0 (.mk k 0 0 0 (y1 :: y2 :: r)) ≤ 30 := by rw [List.length_cons]; omega
    rcases hk with rfl | rfl
    ·have et0 : j7 0 (.mk 4 0 0 0 (y1 :: y2 :: r)) = (p7 4 (y1 :: y2 :: r)).flatten := by
      rw [j7, if_neg (by decide), if_neg (by decide), if_neg (by decide), if_pos (.inl rfl), if_neg (by decide), aq9]
      rfl
     rw [et0] at g2 ⊢
     rw [bd0, if_neg (by decide)] at hbl
     exact ⟨[], y1 :: y2 :: r, by simp, rfl, aX5 hp (.inl rfl) g2 hbl⟩
    ·have et0 : j7 0 (.mk 5 0 0 0 (y1 :: y2 :: r)) = Lib.join (p7 5 (y1 :: y2 :: r)) [124] := by
      rw [j7, if_neg (by decide), if_neg (by decide), if_neg (by decide), if_pos (.inr rfl), if_pos rfl]
      rfl
     rw [et0] at g2 ⊢
     rw [bd0, if_pos rfl] at hbl
     obtain ⟨U', J', h1, h2, h3⟩ := aw8 hx hp hpp (by simp) (U := []) g2 hbl
     exact ⟨U', J', h1, by rw [h2]; rfl, h3⟩
   obtain ⟨U', J', h1, h2, h3⟩ := hin
   rw [aA7 h (by omega), h3, aj7 g3 h1, h2, List.length_cons, List.length_append]
   congr 1
   simp
   omega
  ·have hxp := hp x (by simp)
   have ht : ∃ c : UInt8, (c = 42 ∨ c = 43 ∨ c = 63) ∧ L7 (c.toNat : Nat) = k ∧ j7 w (.mk k 0 0 0 [x]) = j7 k x ++ [c] := by
    rcases hk with rfl | rfl | rfl
    ·refine ⟨42, .inl rfl, rfl, ?_⟩
     rw [j7, if_neg (by decide), if_neg (by decide), if_neg (by decide), if_neg (by decide), p7]; rfl
    ·refine ⟨43, .inr (.inl rfl), rfl, ?_⟩
     rw [j7, if_neg (by decide), if_neg (by decide), if_neg (by decide), if_neg (by decide), p7]; rfl
    ·refine ⟨63, .inr (.inr rfl), rfl, ?_⟩
     rw [j7, if_neg (by decide), if_neg (by decide), if_neg (by decide), if_neg (by decide), p7]; rfl
   obtain ⟨c, hc, hcn, ht⟩ := ht
   rw [ht] at h ⊢
   rw [bd, if_neg (by omega), if_neg (by omega), bds, bds] at hb
   obtain ⟨g1, g2⟩ := h.app
   rw [hxp k (.inr (by omega)) s a U J B g1 (by omega), br9 g2 hc, hcn, List.length_append]
   congr 1
   show _ = a + ((_ + 1 : Nat) : Int)
   omega
  ·have hxp := hp x (by simp)
   have ht : j7 w (.mk 9 0 lo hi [x]) = j7 9 x ++ [123, dig lo.toNat, 44, dig hi.toNat, 125] := by
    rw [j7, if_neg (by decide), if_neg (by decide), if_neg (by decide), if_neg (by decide), p7]; rfl
   rw [ht] at h ⊢
   rw [bd, if_neg (by decide), if_neg (by decide), bds, bds] at hb
   obtain ⟨g1, g2⟩ := h.app
   rw [hxp 9 (.inr (by omega)) s a U J B g1 (by omega), aV7 g2 (by omega) (by omega), List.length_append, Int.toNat_of_nonneg (by omega), Int.toNat_of_nonneg (by omega)]
   congr 1
   show _ = a + ((_ + 5 : Nat) : Int)
   omega
theorem aB6 {n : Nd} (h : B0 n = true) : ag1 n := ar0 _ n (Nat.lt_succ_self _) h
set_option maxRecDepth 20000
theorem aP7 {t : List UInt8} {l : List (List UInt8)} (h : t ∈ l) (sep : List UInt8) : t.length ≤ (Lib.join l sep).length := by
 induction l with
 | nil => cases h
 | cons u l ih =>
  cases l with
  | nil => rw [List.mem_singleton.1 h, J2]; omega
  | cons v l =>
   rw [B1, List.length_append, List.length_append]
   rcases List.mem_cons.1 h with rfl | h
   ·omega
   ·have := ih h; omega
theorem bI6 {k s lo hi w : Int} {l : List Nd} {x : Nd} (hr : B0 (.mk k s lo hi l) = true) (hx : x ∈ l) : (j7 k x).length ≤ (j7 w (.mk k s lo hi l)).length := by
 obtain ⟨_, hc⟩ := y5 hr
 rcases hc with ⟨rfl, rfl, _⟩ | ⟨_, rfl, _⟩ | ⟨hk, _⟩ | ⟨hk, _, _, _, y, rfl⟩ | ⟨rfl, _, _, _, _, y, rfl⟩
 ·cases hx
 ·cases hx
 ·rw [j7, if_neg (by omega), if_neg (by omega), if_neg (by omega), if_pos hk]
  have h1 : j7 k x ∈ p7 k l := by rw [aw7]; exact List.mem_map.2 ⟨x, hx, rfl⟩
  have h2 := aP7 h1 (if k = 5 then [124] else [])
  unfold bM6
  split
  ·simp; omega
  ·exact h2
 ·rw [j7, if_neg (by omega), if_neg (by omega), if_neg (by omega), if_neg (by omega), p7]
  rw [List.mem_singleton.1 hx]
  simp
 ·rw [j7, if_neg (by omega), if_neg (by omega), if_neg (by omega), if_neg (by omega), p7]
  rw [List.mem_singleton.1 hx]
  simp
def bI7 (args : List AV) (r : AV) : Prop := ∃ n, B0 n = true ∧ az5 n = true ∧ (j7 0 n).length ≤ 100000000 ∧ args = [j5 n] ∧ r = .str (j7 0 n)
theorem bI8 : Q5 bI7 := by
 rintro args r r' ⟨n, _, _, _, rfl, rfl⟩ ⟨n', _, _, _, h, rfl⟩
 simp only [List.cons.injEq, AV.agg.injEq, and_true] at h
 rw [Y4 h]
end Go.Proofs.YtpmjpogcaglphaaDoor.A
