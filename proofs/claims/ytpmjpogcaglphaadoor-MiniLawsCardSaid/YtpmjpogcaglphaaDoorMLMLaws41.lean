/- Texts of one language have one machine. -/
import Derived.Test.YtpmjpogcaglphaaDoorMLMLaws39
import Derived.Test.YtpmjpogcaglphaaDoorMLMLaws40
set_option linter.unusedVariables false
set_option linter.unusedSimpArgs false
set_option linter.unnecessarySimpa false
namespace Go.Proofs.YtpmjpogcaglphaaDoor.A
open Go
set_option maxRecDepth 20000
structure Reads (s : List UInt8) (x : Nd) : Prop where
 r : s.length ≤ 200 → u4 s = (x, 0, 0)
 right : B0 x = true
 slim : as3 x = true
 deep : dN x ≤ 1000
theorem Reads.cases {s x} (h : Reads s x) : u4 s = (x, 0, 0) ∨ (u4 s).2.2 = 4 := by
 by_cases hl : s.length ≤ 200
 ·exact .inl (h.r hl)
 ·right
  rw [u4, if_pos (by omega)]
theorem Reads.good {s x} (h : Reads s x) : bH9 s := fun he => by
 rcases h.cases with hp | hp
 ·obtain ⟨a, b, c⟩ := ar1 x h.right h.slim
  rw [hp]
  exact ⟨a, b, by show hN x ≤ 1000; have := h.deep; omega⟩
 ·rw [hp] at he
  exact absurd he (by decide)
theorem Reads.lang {s x} (h : Reads s x) : (∃ e, e ≠ 0 ∧ U7 s = (none, e)) ∨ ∃ n N A, WfD n N A ∧ n ≤ 200 ∧ U7 s = (some (ar4 N A, Z1 N A), 0) ∧ ∀ w, aP5 w → cf4 n N A w = ai3 x w := by
 rcases h.cases with hp | hp
 ·have hc : U7 s = as6 x := by rw [U7, hp, if_neg (by simp)]
  rw [hc]
  obtain ⟨a, b, _⟩ := ar1 x h.right h.slim
  rcases aQ0 x ⟨a, b⟩ with h' | ⟨L, R, hm, hn, hL, hwf, e⟩
  ·exact .inl h'
  ·exact .inr ⟨_, _, _, hwf, hL, e, fun w hw => bJ0 h.right ⟨a, b⟩ hm hn hw⟩
 ·exact .inl ⟨4, by decide, bv3 _ hp (by decide)⟩
theorem bf5 {x y} (h : X1 x y) (w : List Int) : ai3 x w = ai3 y w := by
 classical
 rw [ai3, ai3, Bool.eq_iff_iff, decide_eq_true_eq, decide_eq_true_eq]
 exact h w 0 w.length
theorem aQ2 {s t x y} (hs : Reads s x) (ht : Reads t y) (h : X1 x y) : (∃ e, e ≠ 0 ∧ U7 s = (none, e)) ∨ (∃ e, e ≠ 0 ∧ U7 t = (none, e)) ∨ ∃ n N A, WfD n N A ∧ U7 s = (some (ar4 N A, Z1 N A), 0) ∧ U7 t = (some (ar4 N A, Z1 N A), 0) := by
 rcases hs.lang with g | ⟨n, N, A, h1, _, h2, h3⟩
 ·exact .inl g
 rcases ht.lang with g | ⟨k, M, B, g1, _, g2, g3⟩
 ·exact .inr (.inl g)
 have he : Eqv N A M B 0 0 := fun w hw => by
  rw [← bu3 h1 hw, ← bu3 g1 hw, h3 _ (aq5 hw), g3 _ (aq5 hw), bf5 h]
 obtain ⟨e1, e2⟩ := bX5 h1.okD g1.okD he
 exact .inr (.inr ⟨n, N, A, h1, h2, by rw [g2, e1, e2]⟩)
set_option maxRecDepth 20000
abbrev Bk (a : Nd) : List UInt8 := [40] ++ j7 0 a ++ [41]
theorem aQ3 {d e t l} (h : RdJ d t l) (hd : d ≤ e) : RdJ e t l := fun s a U J B ht hb => h s a U J B ht (by omega)
theorem cv4 {a : Nd} (h : B0 a = true) (hb : bd0 a ≤ 8) : RdJ 9 (Bk a) [a] := aQ3 (bZ5 h) (by omega)
def Tr (a : Nd) : Prop := okR 8 a ∧ bd0 a ≤ 8
theorem cv5 {h k lo hi} {a : Nd} (ha : okR h a) (hh : Y5 k 0 lo hi 1 = true) : okR (h + 1) (.mk k 0 lo hi [a]) := P3 hh (by simp) (fun x hx => by rw [List.mem_singleton.1 hx]; exact ha)
theorem df7 {h k} {a b : Nd} (ha : okR h a) (hb : okR h b) (hh : Y5 k 0 0 0 2 = true) : okR (h + 1) (.mk k 0 0 0 [a, b]) := P3 hh (by simp) (fun x hx => by
 rcases List.mem_cons.1 hx with rfl | hx
 ·exact ha
 ·rw [List.mem_singleton.1 hx]; exact hb)
theorem bv8 {h} {a : Nd} (ha : okR h a) : okR (h + 1) (nS a) := cv5 ha (by decide)
theorem df8 {h} {a : Nd} (ha : okR h a) : okR (h + 1) (nP a) := cv5 ha (by decide)
theorem dp3 {h} {a : Nd} (ha : okR h a) : okR (h + 1) (nO a) := cv5 ha (by decide)
theorem bx5 {h} {a b : Nd} (ha : okR h a) (hb : okR h b) : okR (h + 1) (nJ a b) := df7 ha hb (by decide)
theorem bN0 {h} {a b : Nd} (ha : okR h a) (hb : okR h b) : okR (h + 1) (nU a b) := df7 ha hb (by decide)
theorem cv6 {h} : okR (h + 1) nE := P3 (l := []) (by decide) (by simp) (fun x hx => by cases hx)
theorem cS2 {h} : okR (h + 1) nN := P3 (l := []) (by decide) (by simp) (fun x hx => by cases hx)
theorem aC1 {d t l x h} (hr : RdJ d t l) (hd : d ≤ 30) (hl : l ≠ []) (e : u5 5 [u5 4 l] = x) (ho : okR h x) (hh : h ≤ 1000) : Reads t x := ⟨fun hn => by rw [bv6 hr hd hl hn, e], ho.1, ho.2.1, Nat.le_trans ho.2.2 hh⟩
theorem bZ7 {d e t u l m x h s} (hs : s = t ++ 124 :: u) (hr : RdJ d t l) (hd : d ≤ 30) (hl : l ≠ []) (hr' : RdJ e u m) (he : e ≤ 30) (hm : m ≠ []) (ex : u5 5 [u5 4 l, u5 4 m] = x) (ho : okR h x) (hh : h ≤ 1000) : Reads s x := by
 subst hs
 exact ⟨fun hn => by rw [bv7 hr hd hl hr' he hm hn, ex], ho.1, ho.2.1, Nat.le_trans ho.2.2 hh⟩
theorem cv7 : RdJ 9 [95] [nE] := aQ3 (aY1 95 (by decide)) (by omega)
theorem cS3 : RdJ 9 [48] [nN] := aQ3 (aY1 48 (by decide)) (by omega)
theorem bv9 {d t u l} (h : RdJ d t l) (e : t = u) : RdJ d u l := e ▸ h
def txA (x y : List UInt8) : List (List UInt8) := [x ++ [124] ++ y, x ++ [124] ++ x, x ++ [95], x ++ [48], x ++ [42] ++ x, x ++ [42, 42], x ++ [63], x ++ [123, 49, 44, 50, 125], x ++ [43, 124, 95], [40] ++ x ++ [124] ++ y ++ [41, 42], x ++ [124, 48], x ++ [123, 48, 44, 48, 125], [40] ++ x ++ y ++ [41, 42] ++ x]
def txB (x y : List UInt8) : List (List UInt8) := [y ++ [124] ++ x, x, [95] ++ x, [48], x ++ [43], x ++ [42], [95, 124] ++ x, x ++ [124] ++ x ++ x, x ++ [42], [40] ++ x ++ [42] ++ y ++ [42, 41, 42], x, [95], x ++ [40] ++ y ++ x ++ [41, 42]]
theorem bw0 {a b : Nd} (ha : Tr a) (hb : Tr b) : ∀ k : Nat, k < 13 → ∃ p q, Reads ((txA (Bk a) (Bk b)).getD k []) p ∧ Reads ((txB (Bk a) (Bk b)).getD k []) q ∧ X1 p q := by
 have ra := cv4 ha.1.1 ha.2
 have rb := cv4 hb.1.1 hb.2
 have oa := ha.1
 have ob := hb.1
 generalize Bk a = x at *
 generalize Bk b = y at *
 intro k hk
 have n1 : ∀ z : Nd, [z] ≠ [] := fun z => by simp
 have n2 : ∀ z z' : Nd, [z, z'] ≠ [] := fun z z' => by simp
 match k, hk with
 | 0, _ => exact ⟨_, _, bZ7 (by simp [txA]) ra (by omega) (n1 _) rb (by omega) (n1 _) rfl (bN0 oa ob) (by omega), bZ7 (by simp [txB]) rb (by omega) (n1 _) ra (by omega) (n1 _) rfl (bN0 ob oa) (by omega), cR1 a b⟩
 | 1, _ => exact ⟨_, _, bZ7 (by simp [txA]) ra (by omega) (n1 _) ra (by omega) (n1 _) rfl (bN0 oa oa) (by omega), aC1 (t := x) ra (by omega) (n1 _) rfl oa (by omega), cR2 a⟩
 | 2, _ => exact ⟨_, _, aC1 (X8 ra cv7) (by omega) (n2 _ _) rfl (bx5 oa cv6) (by omega), aC1 (X8 cv7 ra) (by omega) (n2 _ _) rfl (bx5 cv6 oa) (by omega), cR3 a⟩
 | 3, _ => exact ⟨_, _, aC1 (X8 ra cS3) (by omega) (n2 _ _) rfl (bx5 oa cS2) (by omega), aC1 cS3 (by omega) (n1 _) rfl (cS2 (h := 0)) (by omega), cR4 a⟩
 | 4, _ => exact ⟨_, _, aC1 (X8 (F7 42 (by decide) ra) ra) (by omega) (n2 _ _) rfl (bx5 (bv8 oa) (oa.mono (by omega))) (by omega), aC1 (F7 43 (by decide) ra) (by omega) (n1 _) rfl (df8 oa) (by omega), cR5 a⟩
 | 5, _ => exact ⟨_, _, aC1 (bv9 (F7 42 (by decide) (F7 42 (by decide) ra)) (by simp [txA])) (by omega) (n1 _) rfl (bv8 (bv8 oa)) (by omega), aC1 (F7 42 (by decide) ra) (by omega) (n1 _) rfl (bv8 oa) (by omega), cR6 a⟩
 | 6, _ => exact ⟨_, _, aC1 (F7 63 (by decide) ra) (by omega) (n1 _) rfl (dp3 oa) (by omega), bZ7 (by simp [txB]) cv7 (by omega) (n1 _) ra (by omega) (n1 _) rfl (bN0 cv6 oa) (by omega), cR7 a⟩
 | 7, _ => exact ⟨_, _, aC1 (aY0 (lo := 1) (hi := 2) (by omega) (by omega) ra) (by omega) (n1 _) rfl (cv5 oa (by decide)) (by omega), bZ7 (by simp [txB]) ra (by omega) (n1 _) (X8 ra ra) (by omega) (n2 _ _) rfl (bN0 (oa.mono (by omega)) (bx5 oa oa)) (by omega), cR8 a⟩
 | 8, _ => exact ⟨_, _, bZ7 (by simp [txA]) (F7 43 (by decide) ra) (by omega) (n1 _) cv7 (by omega) (n1 _) rfl (bN0 (df8 oa) cv6) (by omega), aC1 (F7 42 (by decide) ra) (by omega) (n1 _) rfl (bv8 oa) (by omega), cR9 a⟩
 | 9, _ => exact ⟨_, _, aC1 (bv9 (F7 42 (by decide) (bZ6 ra (n1 _) rb (n1 _))) (by simp [txA])) (by omega) (n1 _) rfl (bv8 (bN0 oa ob)) (by omega), aC1 (bv9 (F7 42 (by decide) (bv5 (X8 (F7 42 (by decide) ra) (F7 42 (by decide) rb)) (n2 _ _))) (by simp [txB])) (by omega) (n1 _) rfl (bv8 (bx5 (bv8 oa) (bv8 ob))) (by omega), cS0 a b⟩
 | 10, _ => exact ⟨_, _, bZ7 (by simp [txA]) ra (by omega) (n1 _) cS3 (by omega) (n1 _) rfl (bN0 oa cS2) (by omega), aC1 (t := x) ra (by omega) (n1 _) rfl oa (by omega), cu8 a⟩
 | 11, _ => exact ⟨_, _, aC1 (aY0 (lo := 0) (hi := 0) (by omega) (by omega) ra) (by omega) (n1 _) rfl (cv5 oa (by decide)) (by omega), aC1 cv7 (by omega) (n1 _) rfl (cv6 (h := 0)) (by omega), cu9 a⟩
 | 12, _ => exact ⟨_, _, aC1 (bv9 (X8 (F7 42 (by decide) (bv5 (X8 ra rb) (n2 _ _))) ra) (by simp [txA])) (by omega) (n2 _ _) rfl (bx5 (bv8 (bx5 oa ob)) (oa.mono (by omega))) (by omega), aC1 (bv9 (X8 ra (F7 42 (by decide) (bv5 (X8 rb ra) (n2 _ _)))) (by simp [txB])) (by omega) (n2 _ _) rfl (bx5 (oa.mono (by omega)) (bv8 (bx5 ob oa))) (by omega), cv0 a b⟩
end Go.Proofs.YtpmjpogcaglphaaDoor.A
