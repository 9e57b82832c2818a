/- The plain law of the reader: fuel does not matter; single signs. -/
import Derived.Test.YtpmjpogcaglphaaDoorMLMOther16
set_option linter.unusedVariables false
set_option linter.unusedSimpArgs false
set_option linter.unnecessarySimpa false
namespace Go.Proofs.YtpmjpogcaglphaaDoor.A
open Go
set_option maxRecDepth 20000
theorem aV5 (s : List UInt8) : ∀ (f f' : Nat) (at_ : Int) (U J : List Nd) (B : Lvs), 1 ≤ f → 1 ≤ f' → (s.length : Int) - at_ < f → (s.length : Int) - at_ < f' → pGo s f at_ U J B = pGo s f' at_ U J B
 | 0, _, _, _, _, _, h, _, _, _ => by omega
 | _, 0, _, _, _, _, _, h, _, _ => by omega
 | f + 1, f' + 1, at_, U, J, B, _, _, h, h' => by
  rw [pGo, pGo]
  by_cases c0 : (s.length : Int) ≤ at_
  ·rw [if_pos c0, if_pos c0]
  rw [if_neg c0, if_neg c0]
  have ih := fun at' U' J' B' (h : at_ + 1 ≤ at') => aV5 s f f' at' U' J' B' (by omega) (by omega) (by omega) (by omega)
  have hq := (ab4 s (s.length - (at_ + 1).toNat) (at_ + 1) 0).1
  have e1 := fun U' J' B' => ih (at_ + 1) U' J' B' (by omega)
  have e2 := fun U' J' B' => ih (at_ + 5) U' J' B' (by omega)
  have e3 := fun U' J' B' => ih ((E6 s (s.length - (at_ + 1).toNat) (at_ + 1) 0).2.2 + 1) U' J' B' (by omega)
  simp only [e1, e2, e3]
def pG (s : List UInt8) (at_ : Int) (U J : List Nd) (B : Lvs) : Nd × Int × Int := pGo s (((s.length : Int) - at_).toNat + 1) at_ U J B
theorem aH3 (s : List UInt8) (at_ : Int) (U J : List Nd) (B : Lvs) : pG s at_ U J B =
  if (s.length : Int) ≤ at_ then (if B ≠ [] ∨ J = [] then (M5, at_, 3) else (A3 5 (U ++ [A3 4 J]), 0, 0))
  else if ap1 (N8 (E1 s at_)) ≠ 0 then pG s (at_ + 1) U (J ++ [N8 (E1 s at_)]) B
  else if E1 s at_ = 91 then
   let q := E6 s (s.length - (at_ + 1).toNat) (at_ + 1) 0
   if q.2.1 = false then (M5, q.2.2, 3) else pG s (q.2.2 + 1) U (J ++ [.mk 1 q.1 0 0 []]) B
  else if E1 s at_ = 40 then (if B.length + 1 > 30 then (M5, at_, 4) else pG s (at_ + 1) [] [] ((U, J) :: B))
  else if J = [] then (M5, at_, 3)
  else if N9 (E1 s at_) = 9 then
   let q := M4 s at_
   if 0 ≤ q.2.2 then (M5, q.2.2, 3) else pG s (at_ + 5) U (aF8 9 q.1 q.2.1 J) B
  else if N9 (E1 s at_) ≠ 0 then pG s (at_ + 1) U (aF8 (N9 (E1 s at_)) 0 0 J) B
  else if E1 s at_ = 124 then pG s (at_ + 1) (U ++ [A3 4 J]) [] B
  else if E1 s at_ = 41 ∧ B ≠ [] then pG s (at_ + 1) (B.headD ([], [])).1 ((B.headD ([], [])).2 ++ [A3 5 (U ++ [A3 4 J])]) B.tail
  else (M5, at_, 3) := by
 by_cases c0 : (s.length : Int) ≤ at_
 ·rw [pG, pGo, if_pos c0, if_pos c0]
 rw [pG, pGo, if_neg c0, if_neg c0]
 have ih : ∀ at' U' J' B', at_ + 1 ≤ at' → pGo s ((s.length : Int) - at_).toNat at' U' J' B' = pG s at' U' J' B' := fun at' U' J' B' h => aV5 s _ _ at' U' J' B' (by omega) (by omega) (by omega) (by omega)
 have hq := (ab4 s (s.length - (at_ + 1).toNat) (at_ + 1) 0).1
 have e1 := fun U' J' B' => ih (at_ + 1) U' J' B' (by omega)
 have e2 := fun U' J' B' => ih (at_ + 5) U' J' B' (by omega)
 have e3 := fun U' J' B' => ih ((E6 s (s.length - (at_ + 1).toNat) (at_ + 1) 0).2.2 + 1) U' J' B' (by omega)
 simp only [e1, e2, e3]
theorem bt7 (s : List UInt8) : s9 s = if 200 < s.length then (M5, 0, 4) else pG s 0 [] [] [] := by
 rw [s9, pG]
 rw [show ((s.length : Int) - 0).toNat = s.length by omega]
def TAt (s : List UInt8) (a : Int) (t : List UInt8) : Prop := ∃ p r, s = p ++ t ++ r ∧ a = p.length
theorem TAt.app {s a t u} (h : TAt s a (t ++ u)) : TAt s a t ∧ TAt s (a + t.length) u := by
 obtain ⟨p, r, rfl, rfl⟩ := h
 exact ⟨⟨p, u ++ r, by simp, rfl⟩, ⟨p ++ t, r, by simp, by simp⟩⟩
theorem TAt.cons {s a c t} (h : TAt s a (c :: t)) : (E1 s a = c.toNat ∧ ¬ (s.length : Int) ≤ a ∧ 0 ≤ a) ∧ TAt s (a + 1) t := by
 have h' : TAt s a ([c] ++ t) := h
 obtain ⟨p, r, rfl, rfl⟩ := h
 refine ⟨⟨?_, ?_, by omega⟩, by simpa using h'.app.2⟩
 ·rw [show p ++ c :: t ++ r = p ++ c :: (t ++ r) by simp, bp9]
 ·simp; omega
theorem TAt.all (s : List UInt8) : TAt s 0 s := ⟨[], [], by simp, rfl⟩
theorem TAt.le {s a t} (h : TAt s a t) : a + t.length ≤ s.length ∧ 0 ≤ a := by
 obtain ⟨p, r, rfl, rfl⟩ := h
 simp; omega
theorem aj3 {s a c t U J B} (h : TAt s a (c :: t)) (hc : ap1 (N8 c.toNat) ≠ 0) : pG s a U J B = pG s (a + 1) U (J ++ [N8 c.toNat]) B := by
 obtain ⟨⟨h1, h2, _⟩, _⟩ := h.cons
 rw [aH3, if_neg h2, h1, if_pos hc]
theorem cb0 {s a t U J B} (h : TAt s a (40 :: t)) (hb : B.length + 1 ≤ 30) : pG s a U J B = pG s (a + 1) [] [] ((U, J) :: B) := by
 obtain ⟨⟨h1, h2, _⟩, _⟩ := h.cons
 rw [aH3, if_neg h2, h1, if_neg (by decide), if_neg (by decide), if_pos (by decide), if_neg (by omega)]
theorem bI7 {s a t U J U0 J0 B} (h : TAt s a (41 :: t)) (hJ : J ≠ []) : pG s a U J ((U0, J0) :: B) = pG s (a + 1) U0 (J0 ++ [A3 5 (U ++ [A3 4 J])]) B := by
 obtain ⟨⟨h1, h2, _⟩, _⟩ := h.cons
 rw [aH3, if_neg h2, h1, if_neg (by decide), if_neg (by decide), if_neg (by decide), if_neg hJ, if_neg (by decide), if_neg (by decide), if_neg (by decide), if_pos ⟨rfl, by simp⟩]
 rfl
theorem cy3 {s a t U J B} (h : TAt s a (124 :: t)) (hJ : J ≠ []) : pG s a U J B = pG s (a + 1) (U ++ [A3 4 J]) [] B := by
 obtain ⟨⟨h1, h2, _⟩, _⟩ := h.cons
 rw [aH3, if_neg h2, h1, if_neg (by decide), if_neg (by decide), if_neg (by decide), if_neg hJ, if_neg (by decide), if_neg (by decide), if_pos (by decide)]
theorem aH4 (k lo hi : Int) (J : List Nd) (x : Nd) : aF8 k lo hi (J ++ [x]) = J ++ [.mk k 0 lo hi [x]] := by
 rw [aF8, List.dropLast_concat, List.getLastD_concat]
theorem cb1 {s a c t U J x B} (h : TAt s a (c :: t)) (hc : c = 42 ∨ c = 43 ∨ c = 63) : pG s a U (J ++ [x]) B = pG s (a + 1) U (J ++ [.mk (N9 c.toNat) 0 0 0 [x]]) B := by
 obtain ⟨⟨h1, h2, _⟩, _⟩ := h.cons
 rw [aH3, if_neg h2, h1]
 rcases hc with rfl | rfl | rfl <;>
 rw [if_neg (by decide), if_neg (by decide), if_neg (by decide), if_neg (by simp), if_neg (by decide), if_pos (by decide), aH4]
def dig (x : Nat) : UInt8 := UInt8.ofNat (48 + x)
theorem cb2 {x : Nat} (h : x ≤ 9) : (dig x).toNat = 48 + x := by
 show (48 + x) % 256 = 48 + x
 omega
theorem bI8 {s a t U J x B} {lo hi : Nat} (h : TAt s a (123 :: dig lo :: 44 :: dig hi :: 125 :: t)) (h1 : lo ≤ hi) (h2 : hi ≤ 9) : pG s a U (J ++ [x]) B = pG s (a + 5) U (J ++ [.mk 9 0 lo hi [x]]) B := by
 obtain ⟨⟨b0, l0, n0⟩, g1⟩ := h.cons
 obtain ⟨⟨b1, l1, _⟩, g2⟩ := g1.cons
 obtain ⟨⟨b2, l2, _⟩, g3⟩ := g2.cons
 obtain ⟨⟨b3, l3, _⟩, g4⟩ := g3.cons
 obtain ⟨⟨b4, l4, _⟩, _⟩ := g4.cons
 rw [show a + 1 + 1 = a + 2 by omega] at *
 rw [show a + 2 + 1 = a + 3 by omega] at *
 rw [show a + 3 + 1 = a + 4 by omega] at *
 rw [cb2 (by omega)] at b1 b3
 have d1 : C3 s (a + 1) = lo := by rw [C3, if_neg l1, b1, if_pos (by omega)]; omega
 have d3 : C3 s (a + 3) = hi := by rw [C3, if_neg l3, b3, if_pos (by omega)]; omega
 have s2 : I8 s (a + 2) 44 = -1 := by rw [I8, if_neg l2, if_pos b2]
 have s4 : I8 s (a + 4) 125 = -1 := by rw [I8, if_neg l4, if_pos b4]
 have ht : M4 s a = ((lo : Int), (hi : Int), -1) := by
  unfold M4
  rw [d1, d3, s2, s4, if_neg (by omega), if_neg (by omega), if_neg (by decide), if_neg (by omega), if_neg (by omega), if_neg (by decide), if_neg (by omega)]
 rw [aH3, if_neg l0, b0, if_neg (by decide), if_neg (by decide), if_neg (by decide), if_neg (by simp), if_pos (by decide), ht, if_neg (show ¬ (0 : Int) ≤ -1 by decide), aH4]
def aA2 (m : Nat) : List Nat := (List.range 5).filter fun i => m / 2 ^ i % 2 = 1
theorem cb3 : ∀ q : Fin 31, (bp8 (q.1 + 1) = [46] ∧ q.1 + 1 = 31) ∨ (∃ k : Fin 5, bp8 (q.1 + 1) = [ai2 k.1] ∧ q.1 + 1 = 2 ^ k.1) ∨ (bp8 (q.1 + 1) = cU7 (aA2 (q.1 + 1)) ++ [93] ∧ dt0 (aA2 (q.1 + 1)) = ((q.1 + 1 : Nat) : Int) ∧ (aA2 (q.1 + 1)).all (fun k => decide (k < 5)) = true) := by decide +kernel
theorem aV6 : ∀ (ks : List Nat) (s : List UInt8) (a out : Int) (m : Nat), (∀ k ∈ ks, k < 5) → TAt s a (ks.map ai2 ++ [93]) → ks.length + 1 ≤ m → E6 s m a out = (ks.foldl orK out, decide (0 < ks.foldl orK out), a + ks.length)
 | [], s, a, out, m, _, h, hm => by
  obtain ⟨m, rfl⟩ : ∃ m', m = m' + 1 := ⟨m - 1, by omega⟩
  have h : TAt s a [93] := h
  obtain ⟨⟨h1, _, _⟩, _⟩ := h.cons
  rw [E6, h1]
  have h1 : Y2 (((93 : UInt8).toNat : Nat) : Int) < 0 := by decide
  rw [if_pos h1]
  simp
  congr
 | k :: ks, s, a, out, m, hk, h, hm => by
  obtain ⟨m, rfl⟩ : ∃ m', m = m' + 1 := ⟨m - 1, by omega⟩
  have hk5 := hk k (List.mem_cons_self ..)
  have h : TAt s a (ai2 k :: (ks.map ai2 ++ [93])) := h
  obtain ⟨⟨h1, _, _⟩, h2⟩ := h.cons
  rw [E6, h1, bb0 hk5, if_neg (by omega), aV6 ks s (a + 1) (orN out k) m (fun k' h => hk k' (List.mem_cons_of_mem _ h)) h2 (by rw [List.length_cons] at hm; omega)]
  have e4 : orK out k = orN out k := rfl
  rw [List.foldl_cons, e4, List.length_cons]
  simp only [Prod.mk.injEq, true_and]
  omega
theorem cy4 {s a U J B} {m : Nat} (h : TAt s a (bp8 m)) (h0 : 1 ≤ m) (h1 : m ≤ 31) : pG s a U J B = pG s (a + (bp8 m).length) U (J ++ [.mk 1 m 0 0 []]) B := by
 obtain ⟨q, rfl⟩ : ∃ q, m = q + 1 := ⟨m - 1, by omega⟩
 rcases cb3 ⟨q, by omega⟩ with ⟨e1, e2⟩ | ⟨k, e1, e2⟩ | ⟨e1, e2, e3⟩
 ·simp only at e1 e2
  rw [e1] at h ⊢
  rw [e2, aj3 h (by decide)]
  rfl
 ·simp only at e1 e2
  rw [e1] at h ⊢
  have : ∀ k : Fin 5, ap1 (N8 ((ai2 k.1).toNat : Nat)) ≠ 0 ∧ N8 ((ai2 k.1).toNat : Nat) = .mk 1 ((2 ^ k.1 : Nat) : Int) 0 0 [] := by
   intro k
   have hd : ∀ k : Fin 5, ap1 (N8 ((ai2 k.1).toNat : Nat)) ≠ 0 := by decide
   refine ⟨hd k, ?_⟩
   match k with
   | ⟨0, _⟩ => rfl
   | ⟨1, _⟩ => rfl
   | ⟨2, _⟩ => rfl
   | ⟨3, _⟩ => rfl
   | ⟨4, _⟩ => rfl
  rw [e2, aj3 h (this k).1, (this k).2]
  rfl
 ·simp only at e1 e2 e3
  rw [e1] at h ⊢
  have hk : ∀ k ∈ aA2 (q + 1), k < 5 := fun k hk => of_decide_eq_true (List.all_eq_true.1 e3 k hk)
  have hle := h.le
  have h' : TAt s a (91 :: ((aA2 (q + 1)).map ai2 ++ [93])) := h
  obtain ⟨⟨b1, b2, b3⟩, h2⟩ := h'.cons
  have hl : (cU7 (aA2 (q + 1)) ++ [93]).length = (aA2 (q + 1)).length + 2 := by rw [List.length_append, cU7, List.length_cons, List.length_map]; rfl
  rw [hl] at hle ⊢
  have hc := aV6 (aA2 (q + 1)) s (a + 1) 0 (s.length - (a + 1).toNat) hk h2 (by omega)
  have e2' : (aA2 (q + 1)).foldl orK 0 = ((q + 1 : Nat) : Int) := e2
  rw [e2'] at hc
  rw [aH3, if_neg b2, b1, if_neg (by decide), if_pos (by decide), hc]
  have hd : decide ((0 : Int) < ((q + 1 : Nat) : Int)) = true := decide_eq_true (by omega)
  simp only [hd]
  rw [if_neg (by decide)]
  congr 1
  omega
end Go.Proofs.YtpmjpogcaglphaaDoor.A
