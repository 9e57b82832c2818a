/- Texts put together of texts: what is read of them. -/
import Derived.Test.YtpmjpogcaglphaaDoorMLMLaws35
import Derived.Test.YtpmjpogcaglphaaDoorMLMLaws31
set_option linter.unusedVariables false
set_option linter.unusedSimpArgs false
set_option linter.unnecessarySimpa false
namespace Go.Proofs.YtpmjpogcaglphaaDoor.A
open Go
set_option maxRecDepth 20000
def RdJ (d : Nat) (t : List UInt8) (l : List Nd) : Prop := ∀ s a U J B, TAt s a t → B.length + d ≤ 30 → pG s a U J B = pG s (a + t.length) U (J ++ l) B
theorem X8 {d e : Nat} {t u l m} (h : RdJ d t l) (h' : RdJ e u m) : RdJ (max d e) (t ++ u) (l ++ m) := fun s a U J B ht hb => by
 obtain ⟨h1, h2⟩ := ht.app
 rw [h s a U J B h1 (by omega), h' s _ U _ B h2 (by omega), List.append_assoc, List.length_append]
 congr 1
 omega
theorem bZ5 {x : Nd} (hr : B0 x = true) : RdJ (bd0 x + 1) (40 :: j7 0 x ++ [41]) [x] := fun s a U J B ht hb => by
 have ht : TAt s a (40 :: (j7 0 x ++ [41])) := ht
 obtain ⟨_, g1⟩ := ht.cons
 obtain ⟨g2, g3⟩ := g1.app
 obtain ⟨U', J', h1, h2, h3⟩ := bf2 hr (aB6 hr) (fun k s lo hi l e => by
  subst e
  have hx := (y5 hr).1
  refine ⟨fun y hy => aB6 (hx y hy), fun y hy k s lo hi l' e z hz => ?_⟩
  subst e
  exact aB6 ((y5 (hx _ hy)).1 z hz)) (B := (U, J) :: B) g2 (by rw [List.length_cons]; omega)
 rw [aA7 ht (by omega), h3, aj7 g3 h1, h2]
 congr 1
 simp
 omega
theorem F7 {d : Nat} {t x} (c : UInt8) (hc : c = 42 ∨ c = 43 ∨ c = 63) (h : RdJ d t [x]) : RdJ d (t ++ [c]) [.mk (L7 c.toNat) 0 0 0 [x]] := fun s a U J B ht hb => by
 obtain ⟨h1, h2⟩ := ht.app
 rw [h s a U J B h1 hb, br9 h2 hc, List.length_append]
 congr 1
 show _ = a + ((_ + 1 : Nat) : Int)
 omega
theorem aY0 {d : Nat} {t x} {lo hi : Nat} (h1 : lo ≤ hi) (h2 : hi ≤ 9) (h : RdJ d t [x]) : RdJ d (t ++ [123, dig lo, 44, dig hi, 125]) [.mk 9 0 lo hi [x]] := fun s a U J B ht hb => by
 obtain ⟨g1, g2⟩ := ht.app
 rw [h s a U J B g1 hb, aV7 g2 h1 h2, List.length_append]
 congr 1
 show _ = a + ((_ + 5 : Nat) : Int)
 omega
theorem aY1 (c : UInt8) (hc : ai7 (I3 c.toNat) ≠ 0) : RdJ 0 [c] [I3 c.toNat] := fun s a U J B ht _ => by
 rw [ac4 ht hc]
 rfl
theorem bv5 {d : Nat} {t l} (h : RdJ d t l) (hl : l ≠ []) : RdJ (d + 1) (40 :: t ++ [41]) [u5 5 [u5 4 l]] := fun s a U J B ht hb => by
 have ht : TAt s a (40 :: (t ++ [41])) := ht
 obtain ⟨_, g1⟩ := ht.cons
 obtain ⟨g2, g3⟩ := g1.app
 rw [aA7 ht (by omega), h s _ [] [] ((U, J) :: B) g2 (by rw [List.length_cons]; omega), List.nil_append, aj7 g3 hl, List.nil_append]
 congr 1
 simp
 omega
theorem bZ6 {d e : Nat} {t u l m} (h : RdJ d t l) (hl : l ≠ []) (h' : RdJ e u m) (hm : m ≠ []) : RdJ (max d e + 1) (40 :: (t ++ 124 :: u) ++ [41]) [u5 5 [u5 4 l, u5 4 m]] := fun s a U J B ht hb => by
 have ht : TAt s a (40 :: (t ++ (124 :: (u ++ [41])))) := by simpa using ht
 obtain ⟨_, g1⟩ := ht.cons
 obtain ⟨g2, g3⟩ := g1.app
 obtain ⟨_, g4⟩ := g3.cons
 obtain ⟨g5, g6⟩ := g4.app
 rw [aA7 ht (by omega), h s _ [] [] ((U, J) :: B) g2 (by rw [List.length_cons]; omega), List.nil_append, br8 g3 hl, List.nil_append, h' s _ _ [] ((U, J) :: B) g5 (by rw [List.length_cons]; omega), List.nil_append, aj7 g6 hm]
 congr 1
 simp
 omega
theorem bM9 (s : List UInt8) (a : Int) (U J : List Nd) (h : (s.length : Int) ≤ a) (hJ : J ≠ []) : pG s a U J [] = (u5 5 (U ++ [u5 4 J]), 0, 0) := by
 rw [aH7, if_pos h, if_neg (fun e => e.elim (fun e => e rfl) hJ)]
theorem bv6 {d : Nat} {t l} (h : RdJ d t l) (hd : d ≤ 30) (hl : l ≠ []) (hn : t.length ≤ 200) : u4 t = (u5 5 [u5 4 l], 0, 0) := by
 rw [aH8, if_neg (by omega), h t 0 [] [] [] (TAt.all t) (by simpa using hd), List.nil_append, bM9 _ _ _ _ (by omega) hl, List.nil_append]
theorem bv7 {d e : Nat} {t u l m} (h : RdJ d t l) (hd : d ≤ 30) (hl : l ≠ []) (h' : RdJ e u m) (he : e ≤ 30) (hm : m ≠ []) (hn : (t ++ 124 :: u).length ≤ 200) : u4 (t ++ 124 :: u) = (u5 5 [u5 4 l, u5 4 m], 0, 0) := by
 obtain ⟨g1, g2⟩ := (TAt.all (t ++ 124 :: u)).app
 obtain ⟨_, g3⟩ := g2.cons
 rw [aH8, if_neg (by omega), h _ 0 [] [] [] g1 (by simpa using hd), List.nil_append, br8 g2 hl, h' _ _ _ [] [] g3 (by simpa using he), List.nil_append, List.nil_append, bM9 _ _ _ _ (by simp; omega) hm]
 rfl
end Go.Proofs.YtpmjpogcaglphaaDoor.A
