/- MiniLaws answers true for whatever it is called with; the input reads as it did. -/
import Derived.Test.YtpmjpogcaglphaaDoorMLMLaws47
import Derived.Test.YtpmjpogcaglphaaDoorMLMLaws41
import Derived.Test.YtpmjpogcaglphaaDoorMLMLaws43
import Derived.Test.YtpmjpogcaglphaaDoorMLMLaws44
import Derived.Test.YtpmjpogcaglphaaDoorMLMLaws45
set_option linter.unusedVariables false
set_option linter.unusedSimpArgs false
set_option linter.unnecessarySimpa false
namespace Go.Proofs.YtpmjpogcaglphaaDoor.A
open Go
set_option maxRecDepth 20000
def cT (l : List (List UInt8)) : List AV := l.map AV.str
theorem bN1 {l : List (List UInt8)} {i : Nat} (h : i < l.length) : M5 false 1 ((cT l).drop i) = some (.str (l.getD i [])) := by
 rw [W0 (by simpa [cT] using h)]; simp [cT, List.getD, h]
theorem cx8 (s0 s1 s2 s3 s4 s5 s6 s7 s8 s9 s10 s11 s12 : List UInt8) (tg o nx) : l7 Tryd.prog tg 48 13 [(0, .str s0), (1, .str s1), (2, .str s2), (3, .str s3), (4, .str s4), (5, .str s5), (6, .str s6), (7, .str s7), (8, .str s8), (9, .str s9), (10, .str s10), (11, .str s11), (12, .str s12)] ⟨o, nx⟩ = some (.ref tg tg 0 13, ⟨upd o tg (.row ⟨9, 1, tg, false, true, cT [s0, s1, s2, s3, s4, s5, s6, s7, s8, s9, s10, s11, s12]⟩), nx⟩) := by
 rw [cm2]
 kernel_rfl
attribute [-go_sem] cm2
theorem dp4 (X) {a : n8} {o : Ob} {nx : Nat} {Q : l8} {x y : List UInt8} (h7 : a 7 = .str x) (h8 : a 8 = .str y) (hx : x.length ≤ 10000000) (hy : y.length ≤ 10000000)
  (hQ : ∀ a', a' 0 = a 0 → a' 7 = .str x → a' 8 = .str y → a' 9 = .ref (nx, 77) (nx, 77) 0 13 → Q .normal a' (upd o (nx, 77) (.row ⟨9, 1, (nx, 77), false, true, cT (txA x y)⟩)) (nx + 1)) :
  WP (EX md0 X) noR 12 (fun _ => none) (v7 [1, 1, 1, 1, 0] (Tryd.f5.body.getD .skip)) a o nx Q := by
 simp only [Tryd.f5, Option.getD_some, v7]
 simp (disch := omega) only [go_sem, h7, h8, cx8]
 exact hQ _ rfl h7 h8 rfl
theorem dp5 (X) {a : n8} {o : Ob} {nx : Nat} {Q : l8} {x y : List UInt8} {v : AV} (h7 : a 7 = .str x) (h8 : a 8 = .str y) (h9 : a 9 = v) (hx : x.length ≤ 10000000) (hy : y.length ≤ 10000000)
  (hQ : ∀ a', a' 0 = a 0 → a' 9 = v → a' 10 = .ref (nx, 113) (nx, 113) 0 13 → Q .normal a' (upd o (nx, 113) (.row ⟨9, 1, (nx, 113), false, true, cT (txB x y)⟩)) (nx + 1)) :
  WP (EX md0 X) noR 12 (fun _ => none) (v7 [1, 1, 1, 1, 1, 0] (Tryd.f5.body.getD .skip)) a o nx Q := by
 simp only [Tryd.f5, Option.getD_some, v7]
 simp (disch := omega) only [go_sem, h7, h8, cx8]
 exact hQ _ rfl h9 rfl
noncomputable def XMl : FuncId → List AV → Option AV := p4 [(14, E3 cF7), (22, E3 cv8), (23, E3 cv9), (25, E3 bI7), (24, E3 bv2), (27, E3 RSa), (30, E3 RW)]
theorem cx9 : m7 Tryd.prog XMl := k0 (k0 (k0 (k0 (k0 (k0 (k0 (p9 _) (n5 ba9)) (n5 bJ7)) (n5 bI4)) (n5 bw5)) (n5 bZ9)) (n5 bZ8)) (n5 ca7)
theorem bJ8 {n N A k M B} (h : WfD n N A) (h' : WfD k M B) : XMl 27 [ar3 n N A, ar3 k M B] = some (.bool (decide (A = B ∧ N = M))) := by
 exact m8 (R := RSa) cx7 ⟨_, _, _, _, _, _, h.l, h'.l, by have := h.sz; omega, h.a, h'.a, rfl, rfl⟩
theorem bw8 (X) : f7 (EX md0 X) (fun _ => none) 4 Tryd.f5 = true := by kernel_rfl
theorem bw9 {l : List Rw} (hf : bg2 l = true) : XMl 25 [j5 (W4 l)] = some (.str (j7 0 (W4 l))) ∧ Tr (W4 l) ∧ (j7 0 (W4 l)).length ≤ 9000000 := by
 obtain ⟨r1, r2, r3⟩ := aU6 hf
 obtain ⟨_, r4, _, r5, r6, _⟩ := bZ2 hf
 exact ⟨m8 (R := bI7) bI8 ⟨_, r1, r4, Nat.le_trans (r5 0) (by omega), rfl, rfl⟩, ⟨⟨r1, r2, r3⟩, by omega⟩, Nat.le_trans (r5 0) (by omega)⟩
set_option maxHeartbeats 8000000 in
theorem bJ9 (which : Int) (l m : List Rw) : Ok Tryd.prog 5 [.int .i64 which, slR l, slR m] (.bool true) := by
 refine m5 (E := EX md0 XMl) (cr := noR) cx9 (o8 _) mixed (k := 12) Tryd.func5 (bw8 _) rfl ?_
 have hkn : XMl 14 [] = some (.bool true) := m8 (R := cF7) ca6 ⟨rfl, rfl⟩
 have hfw : XMl 22 [slR l] = some (.bool (bg2 l)) := m8 (R := cv8) bw1 ⟨_, rfl, rfl⟩
 have hon : XMl 23 [slR l] = some (j5 (W4 l)) := m8 (R := cv9) bw2 ⟨_, rfl, rfl⟩
 have hfw' : XMl 22 [slR m] = some (.bool (bg2 m)) := m8 (R := cv8) bw1 ⟨_, rfl, rfl⟩
 have hon' : XMl 23 [slR m] = some (j5 (W4 m)) := m8 (R := cv9) bw2 ⟨_, rfl, rfl⟩
 have r6 := @dp4 XMl
 have r7 := @dp5 XMl
 obtain ⟨c6, h6⟩ : ∃ c, c = v7 [1, 1, 1, 1, 0] (Tryd.f5.body.getD .skip) := ⟨_, rfl⟩
 obtain ⟨c7, h7⟩ : ∃ c, c = v7 [1, 1, 1, 1, 1, 0] (Tryd.f5.body.getD .skip) := ⟨_, rfl⟩
 rw [← h6] at r6
 rw [← h7] at r7
 simp only [Tryd.f5, Option.getD_some, v7] at h6 h7
 simp only [Tryd.f5, Option.getD_some]
 rw [← h6, ← h7]
 clear h6 h7
 by_cases hf : bg2 l = true
 ·rw [hf] at hfw
  by_cases hf' : bg2 m = true
  ·rw [hf'] at hfw'
   obtain ⟨htx, ht, hl⟩ := bw9 hf
   obtain ⟨htx', ht', hl'⟩ := bw9 hf'
   have hall := bw0 ht ht'
   have hbx : (Bk (W4 l)).length ≤ 10000000 := by simp only [Bk, List.length_append, List.length_cons, List.length_nil]; omega
   have hby : (Bk (W4 m)).length ≤ 10000000 := by simp only [Bk, List.length_append, List.length_cons, List.length_nil]; omega
   have ebx : 40 :: (j7 0 (W4 l) ++ [41]) = Bk (W4 l) := rfl
   have eby : 40 :: (j7 0 (W4 m) ++ [41]) = Bk (W4 m) := rfl
   generalize Bk (W4 l) = x at *
   generalize Bk (W4 m) = y at *
   generalize j7 0 (W4 l) = s at *
   generalize j7 0 (W4 m) = s' at *
   clear ht ht' hf hf'
   generalize W4 l = z at *
   generalize W4 m = z' at *
   obtain ⟨kk, ks, klo, khi, kc⟩ := z
   obtain ⟨kk', ks', klo', khi', kc'⟩ := z'
   simp only [j5, o7] at hon htx hon' htx'
   have h0 := Int.emod_nonneg which (show (13 : Int) ≠ 0 by decide)
   have h1 := Int.emod_lt_of_pos which (show (0 : Int) < 13 by decide)
   have hwi : XMl 30 [.int .i64 which, .int .i64 ((13 : Nat) : Int)] = some (.int .i64 (which % 13)) := bS7 (by omega) (by omega)
   generalize which % 13 = q at *
   obtain ⟨k, rfl⟩ := Int.eq_ofNat_of_zero_le h0
   obtain ⟨p1, p2, hr1, hr2, hsl⟩ := hall k (by omega)
   have hone := aQ2 hr1 hr2 hsl
   have hco : XMl 24 [.str ((txA x y).getD k [])] = some (W9 (U7 ((txA x y).getD k []))) := m8 (R := bv2) aX4 ⟨_, hr1.good, rfl, rfl⟩
   have hco' : XMl 24 [.str ((txB x y).getD k [])] = some (W9 (U7 ((txB x y).getD k []))) := m8 (R := bv2) aX4 ⟨_, hr2.good, rfl, rfl⟩
   have hat1 : M5 false 1 ((cT (txA x y)).drop k) = some (.str ((txA x y).getD k [])) := bN1 (by show k < 13; omega)
   have hat2 : M5 false 1 ((cT (txB x y)).drop k) = some (.str ((txB x y).getD k [])) := bN1 (by show k < 13; omega)
   have hl1 : (cT (txA x y)).length = 13 := rfl
   have hl2 : (cT (txB x y)).length = 13 := rfl
   clear hr1 hr2 hall
   simp (disch := omega) only [go_sem, hkn, hfw, hfw', hon, hon', htx, htx', ebx, eby]
   refine r6 (x := x) (y := y) rfl rfl hbx hby ?_
   intro a6 g0 g7 g8 g9
   simp (disch := omega) only [go_sem]
   refine r7 (x := x) (y := y) g7 g8 g9 hbx hby ?_
   intro a7 e0 e9 e10
   rw [g0] at e0
   clear r6 r7
   generalize (txA x y).getD k [] = t at *
   generalize (txB x y).getD k [] = t' at *
   generalize cT (txA x y) = L at *
   generalize cT (txB x y) = L' at *
   have e0 : a7 0 = .int .i64 which := e0
   rcases hone with ⟨e, he, hc⟩ | ⟨e, he, hc⟩ | ⟨n, N, A, hw, hc, hc'⟩
   ·rw [hc, W9] at hco
    generalize U7 t' = cc at hco'
    obtain ⟨_ | ⟨N', A'⟩, e'⟩ := cc
    ·rw [W9] at hco'
     simp (disch := omega) only [go_sem, e0, e9, e10, hwi, hat1, hat2, hl1, hl2, hco, hco', he]
    ·rw [W9] at hco'
     simp (disch := omega) only [go_sem, e0, e9, e10, hwi, hat1, hat2, hl1, hl2, hco, hco', he]
   ·rw [hc, W9] at hco'
    generalize U7 t = cc at hco
    obtain ⟨_ | ⟨N', A'⟩, e'⟩ := cc
    ·rw [W9] at hco
     by_cases he' : e' = 0
     ·subst he'
      simp (disch := omega) only [go_sem, e0, e9, e10, hwi, hat1, hat2, hl1, hl2, hco, hco', he]
     ·simp (disch := omega) only [go_sem, e0, e9, e10, hwi, hat1, hat2, hl1, hl2, hco, hco', he']
    ·rw [W9] at hco
     by_cases he' : e' = 0
     ·subst he'
      simp (disch := omega) only [go_sem, e0, e9, e10, hwi, hat1, hat2, hl1, hl2, hco, hco', he]
     ·simp (disch := omega) only [go_sem, e0, e9, e10, hwi, hat1, hat2, hl1, hl2, hco, hco', he']
   ·rw [hc, W9] at hco
    rw [hc', W9] at hco'
    have hs := bJ8 (bM0 hw) (bM0 hw)
    rw [decide_eq_true ⟨rfl, rfl⟩] at hs
    generalize ar4 N A = N at *
    generalize Z1 N A = A at *
    simp (disch := omega) only [go_sem, e0, e9, e10, hwi, hat1, hat2, hl1, hl2, hco, hco', hs]
  ·rw [show bg2 m = false by simpa using hf'] at hfw'
   simp (disch := omega) only [go_sem, hkn, hfw, hfw']
 ·rw [show bg2 l = false by simpa using hf] at hfw
  simp (disch := omega) only [go_sem, hkn, hfw]
end Go.Proofs.YtpmjpogcaglphaaDoor.A
namespace Go.Proofs.YtpmjpogcaglphaaDoor
open Go Go.Proofs.YtpmjpogcaglphaaDoor.A
set_option maxRecDepth 100000 in
theorem miniLaws_lifted (os : Os) (started : os.Started) (H : Type) (enc : TypeId × Value → H) :
  ReturnsInHanded {} Tryd.checked os 5 .any (fun w args => (Rows.miniLawsSpec.pre enc Tryd.prog Tryd.f5 [] false w args ∧ laidMetH Tryd.prog laidL w) ∧ sizedMet enc Tryd.prog Tryd.f5 (OpenSpec.ofChange Rows.miniLawsSpec) false w args) (Rows.miniLawsSpec.post enc Tryd.prog Tryd.f5 false true false false) :=
 bD0 (C := Tryd.checked) (L := laidL) laidL_noh Tryd.own started (by kernel_rfl) Tryd.func5
  (ChangeSpec.witness_at (enc := enc) (C := Tryd.checked) (os := os) (X := fun w _ => laidMetH Tryd.prog laidL w) false (laidWorld os) #[.int .i64 0, .slice none 0 0, .slice none 0 0] 8 rfl (by kernel_rfl) (by kernel_rfl) (by kernel_rfl) (by kernel_rfl) (by kernel_rfl) (laidWorld_met os _))
  Tryd.laidOut (ks := [3, 33, 75]) (by kernel_rfl) (by kernel_rfl) (tb := 4) (by kernel_rfl) (by kernel_rfl) rfl
  (fun ds hds => by
   match ds, hds with
   | [_, _, _], _ => exact ⟨rfl, rfl, rfl⟩)
  laid_gl (fun xs hxs => by
   rw [show Tryd.f5.params.toList = [3, 33, 33] from rfl] at hxs
   match xs, hxs with
   | [x1, x2, x3], ⟨h1, h2, h3, _⟩ =>
    obtain ⟨n1, rfl, _⟩ := bP0 (k := .i64) (by kernel_rfl) h1
    obtain ⟨n2, rfl⟩ := aY2 h2
    obtain ⟨n3, rfl⟩ := aY2 h3
    exact bJ9 n1 n2 n3)
theorem miniLaws_row_holds : Rows.MiniLawsSaid :=
 OpenClaim.holds_of_wide 5 Tryd.f5 rfl rfl rfl rfl rfl rfl rfl ⟨rfl, rfl, rfl, rfl, rfl⟩ rfl rfl rfl rfl rfl (by kernel_rfl) Tryd.func5 (by kernel_rfl)
  (of_decide_eq_true (by kernel_rfl)) (by unfold Func.isWrapper; first | (rw [if_pos (by decide +kernel)]; kernel_rfl) | (rw [if_neg (by decide +kernel)]; exact ⟨rfl, rfl⟩))
  (fun os started H enc _ => miniLaws_lifted os started H enc)
theorem miniLaws_card_holds : Rows.MiniLawsCardSaid :=
 Claim7.holds_tied_plain_at .later [] [.data, .data, .data] true (true, "102ca1f5da5c52998f5edfe949f841430b613cce0079492f5bc01c543bb3a885") false
  miniLaws_row_holds (fun _ h => by cases h) (by kernel_rfl) (fun _ h => by cases h) miniLaws_row_tie rfl ⟨rfl, rfl⟩ (by kernel_rfl) rfl
  (fun f fn hf hfn => by
   obtain rfl : f = 5 := (Option.some.inj ((show Tryd.prog.funcNamed "milestone/milestonelaw8.MiniLaws" = some 5 by kernel_rfl).symm.trans hf)).symm
   obtain rfl : fn = Tryd.f5 := (Option.some.inj (Tryd.func5.symm.trans hfn)).symm
   refine ⟨by kernel_rfl, fun j t ht => ?_⟩
   exact (wants_all (by kernel_rfl : (Tryd.f5.params.toList.all fun t => !Tryd.prog.wantsStandIn t) = true) ht))
  (by kernel_rfl)
end Go.Proofs.YtpmjpogcaglphaaDoor
