/- MiniOne answers true for whatever it is called with; the input reads as it did. -/
import Derived.Test.YtpmjpogcaglphaaDoorMLMOne39
import Derived.Test.YtpmjpogcaglphaaDoorMLMOne41
import Derived.Test.YtpmjpogcaglphaaDoorMLMOne42
import Derived.Test.YtpmjpogcaglphaaDoorMLMOne47
set_option linter.unusedVariables false
set_option linter.unusedSimpArgs false
set_option linter.unnecessarySimpa false
namespace Go.Proofs.YtpmjpogcaglphaaDoor.A
open Go
set_option maxRecDepth 20000
def bU1 (args : List AV) (r : AV) : Prop := ∃ (n : Nd) (w : List Int), B5 n = true ∧ ah5 n = true ∧ w.length ≤ 1000000 ∧ args = [f6 n, slI w] ∧ r = .bool (T8 n w)
theorem bU2 : K5 bU1 := by
 rintro args r r' ⟨n, w, _, _, _, rfl, rfl⟩ ⟨n', w', _, _, _, h, rfl⟩
 simp only [List.cons.injEq, AV.agg.injEq, AV.sl.injEq, and_true] at h
 rw [T1 h.1, K0 h.2.2]
theorem bU3 (args r) (h : bU1 args r) : Ok Tryd.prog 28 args r := by obtain ⟨n, w, h1, h2, h3, rfl, rfl⟩ := h; exact bS4 n w h1 h2 h3
noncomputable def XMq : FuncId → List AV → Option AV := p4 [(14, A4 cI6), (22, A4 cG5), (23, A4 cG6), (25, A4 bQ9), (24, A4 bQ4), (26, A4 cR0), (27, A4 RSa), (29, A4 bp5), (28, A4 bU1)]
theorem cJ0 : m9 Tryd.prog XMq := f9 (f9 (f9 (f9 (f9 (f9 (f9 (f9 (f9 (p7 _) (l9 bU3)) (l9 bI5)) (l9 bT2)) (l9 bU0)) (l9 bQ6)) (l9 bD3)) (l9 ck3)) (l9 ck2)) (l9 ck9)
theorem bU4 {n N A k M B} (h : WfD n N A) (h' : WfD k M B) : XMq 27 [dV n N A, dV k M B] = some (.bool (decide (A = B ∧ N = M))) := bT4 h h'
theorem bU5 (ns : List Int) (most few : Int) (h : 0 ≤ most ∧ most ≤ 1000) : XMq 29 [slI ns, .int .i64 most, .int .i64 few] = some (slI (E6 ns most few)) := bT5 ns most few h
theorem cl8 {n N A k M B} (h : WfD n N A) (h' : WfD k M B) : XMq 26 [dV n N A, dV k M B] = some (apV (bz3 N A M B)) := by
 rw [← bT3 h.a, ← bT3 h'.a]
 exact m5 (R := cR0) cl6 ⟨_, _, _, _, _, _, h, h', rfl, rfl⟩
theorem bU6 (X) : d9 (EX md0 X) (fun _ => none) 4 Tryd.f4 = true := by kernel_rfl
theorem bE2 {l : List Rw} (hf : bk5 l = true) : XMq 25 [f6 (aa7 l)] = some (.str (l7 0 (aa7 l))) ∧ XMq 24 [.str (l7 0 (aa7 l))] = some (ai7 (am1 (l7 0 (aa7 l)))) ∧
  (∀ w : List Int, w.length ≤ 1000000 → XMq 28 [f6 (aa7 l), slI w] = some (.bool (T8 (aa7 l) w))) ∧
  ((∃ e, e ≠ 0 ∧ am1 (l7 0 (aa7 l)) = (none, e)) ∨ ∃ n N A, WfD n N A ∧ n ≤ 200 ∧ am1 (l7 0 (aa7 l)) = (some (aa1 N A, O3 N A), 0) ∧ ∀ w, ab3 w → ay6 n N A w = T8 (aa7 l) w) := by
 obtain ⟨r1, r2, r3⟩ := aY0 hf
 obtain ⟨_, r4, _, r5, r6, _⟩ := cj5 hf
 exact ⟨m5 (R := bQ9) bR0 ⟨_, r1, r4, Nat.le_trans (r5 0) (by omega), rfl, rfl⟩, m5 (R := bQ4) bQ5 ⟨_, bA8 r1 r2 (by omega) (by omega), rfl, rfl⟩,
  fun w hw => m5 (R := bU1) bU2 ⟨_, _, r1, r4, hw, rfl, rfl⟩, bC8 r1 r2 (by omega)⟩
theorem bE3 {n N A} (h : WfD n N A) (w : List Int) : ay6 (O3 N A).length (aa1 N A) (O3 N A) w = ay6 n N A w := (bz8 h (bz4 h) (by9 h.okD) w).symm
theorem bk2 {n N A k M B} (h : WfD n N A) (h' : WfD k M B) {w : List Nat} (hf : bz3 N A M B = some w) : ab3 (nL w) ∧ ay6 n N A (nL w) ≠ ay6 k M B (nL w) := by
 have hk := (ba8 h.okD h'.okD).2
 rw [hf] at hk
 obtain ⟨hg, hd, _⟩ := hk
 refine ⟨fun y hy => ?_, ?_⟩
 ·obtain ⟨m, hm, rfl⟩ := List.mem_map.1 hy
  have := hg m hm
  exact ⟨Int.natCast_nonneg _, by show ((m : Nat) : Int) < 5; omega⟩
 ·rw [show nL w = w.map fun m : Nat => (m : Int) from rfl, bA0 h hg, bA0 h' hg]
  exact hd
set_option maxHeartbeats 8000000 in
theorem cl9 (l m : List Rw) (ws : List Int) : Ok Tryd.prog 4 [slR l, slR m, slI ws] (.bool true) := by
 refine k0 (E := EX md0 XMq) (cr := noR) cJ0 (m6 _) mixed (k := 12) Tryd.func4 (bU6 _) rfl ?_
 have hkn : XMq 14 [] = some (.bool true) := m5 (R := cI6) ck8 ⟨rfl, rfl⟩
 have hfw : XMq 22 [slR l] = some (.bool (bk5 l)) := m5 (R := cG5) bC9 ⟨_, rfl, rfl⟩
 have hon : XMq 23 [slR l] = some (f6 (aa7 l)) := m5 (R := cG6) bD0 ⟨_, rfl, rfl⟩
 have hfw' : XMq 22 [slR m] = some (.bool (bk5 m)) := m5 (R := cG5) bC9 ⟨_, rfl, rfl⟩
 have hon' : XMq 23 [slR m] = some (f6 (aa7 m)) := m5 (R := cG6) bD0 ⟨_, rfl, rfl⟩
 simp only [Tryd.f4, Option.getD_some]
 by_cases hf : bk5 l = true
 ·rw [hf] at hfw
  by_cases hf' : bk5 m = true
  ·rw [hf'] at hfw'
   obtain ⟨htx, hco, hma, hcs⟩ := bE2 hf
   obtain ⟨htx', hco', hma', hcs'⟩ := bE2 hf'
   generalize l7 0 (aa7 l) = s at *
   generalize l7 0 (aa7 m) = s' at *
   generalize hx : aa7 l = x at *
   generalize hx' : aa7 m = x' at *
   generalize T8 x = mt at *
   generalize T8 x' = mt' at *
   clear hx hx' hf hf'
   obtain ⟨kk, ks, klo, khi, kc⟩ := x
   obtain ⟨kk', ks', klo', khi', kc'⟩ := x'
   simp only [f6, n5] at hon htx hma hon' htx' hma'
   rcases hcs with ⟨e, he, hc⟩ | ⟨n, N, A, hw, hn2, hc, hl⟩
   ·rw [hc, ai7] at hco
    rcases hcs' with ⟨e', he', hc'⟩ | ⟨n', N', A', hw', hn2', hc', hl'⟩
    ·rw [hc', ai7] at hco'
     simp (disch := omega) only [go_sem, hkn, hfw, hon, htx, hco, hfw', hon', htx', hco', he]
    ·rw [hc', ai7] at hco'
     simp (disch := omega) only [go_sem, hkn, hfw, hon, htx, hco, hfw', hon', htx', hco', he]
   ·rw [hc, ai7] at hco
    rcases hcs' with ⟨e', he', hc'⟩ | ⟨n', N', A', hw', hn2', hc', hl'⟩
    ·rw [hc', ai7] at hco'
     simp (disch := omega) only [go_sem, hkn, hfw, hon, htx, hco, hfw', hon', htx', hco', he']
    ·rw [hc', ai7] at hco'
     have hwm := bz4 hw
     have hwm' := bz4 hw'
     have hr : ∀ w, ab3 w → ay6 (O3 N A).length (aa1 N A) (O3 N A) w = mt w := fun w h => by rw [bE3 hw, hl w h]
     have hr' : ∀ w, ab3 w → ay6 (O3 N' A').length (aa1 N' A') (O3 N' A') w = mt' w := fun w h => by rw [bE3 hw', hl' w h]
     have hs1 : (O3 N A).length ≤ 200 := by have := (ba5 hw.okD).2; have := hw.a; omega
     have hs2 : (O3 N' A').length ≤ 200 := by have := (ba5 hw'.okD).2; have := hw'.a; omega
     have hag := aL5 hw.okD
     have hag' := aL5 hw'.okD
     clear hl hl' hc hc' hw hw'
     generalize aa1 N A = M at *
     generalize O3 N A = B at *
     generalize aa1 N' A' = M' at *
     generalize O3 N' A' = B' at *
     have hsa := bU4 hwm hwm'
     have hfar := cl8 hwm hwm'
     cases hfm : bz3 M B M' B' with
     | some w =>
      obtain ⟨g1, g2⟩ := bk2 hwm hwm' hfm
      rw [hfm] at hfar
      have hfar : XMq 26 _ = some (.tup [slI (nL w), .bool true]) := hfar
      have hlw : (nL w).length ≤ 1000000 := by
       rw [A1]
       exact Nat.le_trans (cl7 hwm.okD hwm'.okD hfm) (Nat.le_trans (Nat.mul_le_mul hs1 hs2) (by omega))
      have hm1 := hma _ hlw
      have hm2 := hma' _ hlw
      rw [← hr _ g1] at hm1
      rw [← hr' _ g1] at hm2
      have hsf : decide (B = B' ∧ M = M') = false := decide_eq_false fun ⟨e1, e2⟩ => g2 (by rw [e1, e2])
      rw [hsf] at hsa
      have hne : (ay6 B.length M B (nL w) == ay6 B'.length M' B' (nL w)) = false := beq_false_of_ne g2
      generalize ay6 B.length M B (nL w) = z1 at *
      generalize ay6 B'.length M' B' (nL w) = z2 at *
      generalize nL w = w at *
      clear hr hr' hma hma'
      simp (disch := first | omega | (intro _; simp (disch := omega) only [go_sem, hkn, hfw, hon, htx, hco, hfw', hon', htx', hco', hsa, hfar, hm1, hm2, hne, Bool.not_false])) only [go_sem, hkn, hfw, hon, htx, hco, hfw', hon', htx', hco', hsa, hfar, hm1, hm2, hne, Bool.not_false]
     | none =>
      have hk := (ba8 hwm.okD hwm'.okD).2
      rw [hfm] at hk hfar
      have hfar : XMq 26 _ = some (.tup [.sl 0 [], .bool false]) := hfar
      obtain ⟨e1, e2⟩ := bz0 hwm.okD hwm'.okD hk
      rw [hag.1, hag'.1] at e1
      rw [hag.2, hag'.2] at e2
      rw [decide_eq_true ⟨e2, e1⟩] at hsa
      have hmt : ∀ w, ab3 w → mt' w = mt w := fun w h => by rw [← hr w h, ← hr' w h, bz8 hwm hwm' hk]
      simp (disch := omega) only [go_sem, hkn, hfw, hon, htx, hco, hfw', hon', htx', hco', hsa, hfar]
      refine p9 (fun mm a o nx => ∃ i : Nat, i ≤ 8 ∧ mm = 8 - i ∧ a 2 = slI ws ∧ a 7 = .ptr (3, 7) (3, 7) 0 ∧ a 8 = .ptr (3, 8) (3, 8) 0 ∧ a 9 = .ptr (4, 9) (4, 9) 0 ∧ a 11 = .ptr (5, 11) (5, 11) 0 ∧ a 15 = .int .i64 i ∧
        o (3, 7) = some (.row ⟨37, 1, (3, 7), false, true, [.int .i64 kk, .int .i64 ks, .int .i64 klo, .int .i64 khi, slN kc]⟩) ∧ o (3, 8) = some (.row ⟨37, 1, (3, 8), false, true, [.int .i64 kk', .int .i64 ks', .int .i64 klo', .int .i64 khi', slN kc']⟩) ∧
        o (4, 9) = some (.row ⟨27, 1, (4, 9), false, true, [.sl B.length (cI M), .sl B.length (cB B)]⟩) ∧ o (5, 11) = some (.row ⟨27, 1, (5, 11), false, true, [.sl B'.length (cI M'), .sl B'.length (cB B')]⟩)) 8 (by omega)
       ⟨0, by omega, by omega, by simp (disch := omega) only [go_sem], by simp (disch := omega) only [go_sem], by simp (disch := omega) only [go_sem], by simp (disch := omega) only [go_sem], by simp (disch := omega) only [go_sem], by simp (disch := omega) only [go_sem], by simp (disch := omega) only [go_sem], by simp (disch := omega) only [go_sem], by simp (disch := omega) only [go_sem], by simp (disch := omega) only [go_sem]⟩ ?_
      rintro mm a o nx ⟨i, hi, hmm, h2, h7, h8, h9, h11, h15, o7, o8, o9, o11⟩
      by_cases hlt : i < 8
      ·have hwd := bU5 ws i 4 (by omega)
       have hwg : ab3 (E6 ws i 4) := bD5 ws i
       have hwl := bp6 ws i 4
       have hm1 := hma (E6 ws i 4) (by omega)
       have hm2 := hma' (E6 ws i 4) (by omega)
       rw [hmt _ hwg] at hm2
       have hbe : (mt (E6 ws i 4) == mt (E6 ws i 4)) = true := beq_self_eq_true _
       generalize mt (E6 ws i 4) = z at *
       generalize E6 ws i 4 = w at *
       simp (disch := omega) only [go_sem, h2, h7, h8, h9, h11, h15, o7, o8, o9, o11, hwd, hm1, hm2, hbe, Bool.not_true]
       exact ⟨8 - (i + 1), by omega, i + 1, by omega, rfl, rfl⟩
      ·simp (disch := omega) only [go_sem, h2, h7, h8, h9, h11, h15, o7, o8, o9, o11, hsa]
  ·rw [show bk5 m = false by simpa using hf'] at hfw'
   simp (disch := omega) only [go_sem, hkn, hfw, hfw']
 ·rw [show bk5 l = false by simpa using hf] at hfw
  simp (disch := omega) only [go_sem, hkn, hfw]
end Go.Proofs.YtpmjpogcaglphaaDoor.A
namespace Go.Proofs.YtpmjpogcaglphaaDoor
open Go Go.Proofs.YtpmjpogcaglphaaDoor.A
set_option maxRecDepth 100000 in
theorem miniOne_lifted (os : Os) (started : os.Started) (H : Type) (enc : TypeId × Value → H) :
  ReturnsInHanded {} Tryd.checked os 4 .any (fun w args => (Rows.miniOneSpec.pre enc Tryd.prog Tryd.f4 [] false w args ∧ laidMetH Tryd.prog laidL w) ∧ sizedMet enc Tryd.prog Tryd.f4 (OpenSpec.ofChange Rows.miniOneSpec) false w args) (Rows.miniOneSpec.post enc Tryd.prog Tryd.f4 false true false false) :=
 bK7 (C := Tryd.checked) (L := laidL) laidL_noh Tryd.own started (by kernel_rfl) Tryd.func4
  (ChangeSpec.witness_at (enc := enc) (C := Tryd.checked) (os := os) (X := fun w _ => laidMetH Tryd.prog laidL w) false (laidWorld os) #[.slice none 0 0, .slice none 0 0, .slice none 0 0] 8 rfl (by kernel_rfl) (by kernel_rfl) (by kernel_rfl) (by kernel_rfl) (by kernel_rfl) (laidWorld_met os _))
  Tryd.laidOut (ks := [33, 22, 75, 3]) (by kernel_rfl) (by kernel_rfl) (tb := 4) (by kernel_rfl) (by kernel_rfl) rfl
  (fun ds hds => by
   match ds, hds with
   | [_, _, _], _ => exact ⟨rfl, rfl, rfl⟩)
  laid_gl (fun xs hxs => by
   rw [show Tryd.f4.params.toList = [33, 33, 22] from rfl] at hxs
   match xs, hxs with
   | [x1, x2, x3], ⟨h1, h2, h3, _⟩ =>
    obtain ⟨n1, rfl⟩ := bb9 h1
    obtain ⟨n2, rfl⟩ := bb9 h2
    obtain ⟨n3, rfl, _⟩ := bK5 (e := 3) (by kernel_rfl) (by kernel_rfl) h3
    exact cl9 n1 n2 n3)
theorem miniOne_row_holds : Rows.MiniOneSaid :=
 OpenClaim.holds_of_wide 4 Tryd.f4 rfl rfl rfl rfl rfl rfl rfl ⟨rfl, rfl, rfl, rfl, rfl⟩ rfl rfl rfl rfl rfl (by kernel_rfl) Tryd.func4 (by kernel_rfl)
  (of_decide_eq_true (by kernel_rfl)) (by unfold Func.isWrapper; first | (rw [if_pos (by decide +kernel)]; kernel_rfl) | (rw [if_neg (by decide +kernel)]; exact ⟨rfl, rfl⟩))
  (fun os started H enc _ => miniOne_lifted os started H enc)
theorem miniOne_card_holds : Rows.MiniOneCardSaid :=
 Claim7.holds_tied_plain_at .later [] [.data, .data, .data] true (true, "102ca1f5da5c52998f5edfe949f841430b613cce0079492f5bc01c543bb3a885") false
  miniOne_row_holds (fun _ h => by cases h) (by kernel_rfl) (fun _ h => by cases h) miniOne_row_tie rfl ⟨rfl, rfl⟩ (by kernel_rfl) rfl
  (fun f fn hf hfn => by
   obtain rfl : f = 4 := (Option.some.inj ((show Tryd.prog.funcNamed "milestone/milestonelaw8.MiniOne" = some 4 by kernel_rfl).symm.trans hf)).symm
   obtain rfl : fn = Tryd.f4 := (Option.some.inj (Tryd.func4.symm.trans hfn)).symm
   refine ⟨by kernel_rfl, fun j t ht => ?_⟩
   exact (wants_all (by kernel_rfl : (Tryd.f4.params.toList.all fun t => !Tryd.prog.wantsStandIn t) = true) ht))
  (by kernel_rfl)
end Go.Proofs.YtpmjpogcaglphaaDoor
