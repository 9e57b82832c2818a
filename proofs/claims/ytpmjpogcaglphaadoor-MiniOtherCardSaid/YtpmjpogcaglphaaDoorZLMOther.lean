/- MiniOther answers true for whatever it is called with; the input reads as it did. -/
import Derived.Test.YtpmjpogcaglphaaDoorMLMOther37
import Derived.Test.YtpmjpogcaglphaaDoorMLMOther38
import Derived.Test.YtpmjpogcaglphaaDoorMLMOther45
import Derived.Test.YtpmjpogcaglphaaDoorMLMOther46
import Derived.Test.YtpmjpogcaglphaaDoorMLMOther47
set_option linter.unusedVariables false
set_option linter.unusedSimpArgs false
set_option linter.unnecessarySimpa false
namespace Go.Proofs.YtpmjpogcaglphaaDoor.A
open Go
set_option maxRecDepth 20000
def cJ8 (args : List AV) (r : AV) : Prop := ∃ l, args = [slR l] ∧ r = .bool (bN0 l)
theorem cd4 : N1 cJ8 := by
 rintro args r r' ⟨x, rfl, rfl⟩ ⟨x', h, rfl⟩
 simp only [List.cons.injEq, AV.sl.injEq, and_true] at h
 rw [aa6 h.2]
theorem cd5 (args r) (h : cJ8 args r) : Ok Tryd.prog 22 args r := by obtain ⟨x, rfl, rfl⟩ := h; exact bV0 x
def cJ9 (args : List AV) (r : AV) : Prop := ∃ l, args = [slR l] ∧ r = j5 (an8 l)
theorem cd6 : N1 cJ9 := by
 rintro args r r' ⟨x, rfl, rfl⟩ ⟨x', h, rfl⟩
 simp only [List.cons.injEq, AV.sl.injEq, and_true] at h
 rw [aa6 h.2]
theorem cd7 (args r) (h : cJ9 args r) : Ok Tryd.prog 23 args r := by obtain ⟨x, rfl, rfl⟩ := h; exact cr6 x
noncomputable def XMo : FuncId → List AV → Option AV := n7 [(14, w9 cj4), (22, w9 cJ8), (23, w9 cJ9), (25, w9 bJ1), (24, w9 bI4), (21, w9 bd1), (16, w9 bH5), (33, w9 cj5), (27, w9 RSa), (32, w9 RRn), (29, w9 aZ0), (20, w9 bG9), (19, w9 bG9)]
theorem cB7 : m6 Tryd.prog XMo := f9 (f9 (f9 (f9 (f9 (f9 (f9 (f9 (f9 (f9 (f9 (f9 (f9 (m7 _) (k0 bs9)) (k0 bH0)) (k0 bz8)) (k0 cA7)) (k0 bK0)) (k0 bv4)) (k0 aH2)) (k0 bK2)) (k0 bI6)) (k0 bu3)) (k0 cd7)) (k0 cd5)) (k0 cc2)
theorem cd8 {n N A} (h : WfD n N A) : XMo 16 [dV n N A] = some (dV (I5 N A).length (R5 N A) (I5 N A)) := cc3 h
theorem bL1 {n N A k M B} (h : WfD n N A) (h' : WfD k M B) : XMo 27 [dV n N A, dV k M B] = some (.bool (decide (A = B ∧ N = M))) := bK3 h h'
theorem bv5 {n N A} (h : WfD n N A) (w : List Int) (hl : w.length ≤ 1000000) : XMo 32 [dV n N A, slI w] = some (.bool (bv8 n N A w)) := cc6 h w hl
theorem cd9 {n N A} (h : WfD n N A) : XMo 21 [dV n N A] = some (.bool true) := cc5 h
theorem cB8 {n N A} (h : WfD n N A) : XMo 19 [dV n N A] = some (.bool (I6 n N)) := cA8 h
theorem ce0 {n N A} (h : WfD n N A) : XMo 20 [dV n N A] = some (.bool (I6 n N)) := cc4 h
theorem ce1 {n N A k M B} (h : WfD n N A) (h' : WfD k M B) : XMo 33 [dV n N A, dV k M B] = some (apV (bs2 N A M B)) := cd3 h h'
theorem bL2 (ns : List Int) (most few : Int) (h : 0 ≤ most ∧ most ≤ 1000) : XMo 29 [slI ns, .int .i64 most, .int .i64 few] = some (slI (F9 ns most few)) := bK4 ns most few h
def ce2 : Nat → Option (List (Nat × Nat))
 | 12 => some [(1, 8)]
 | 15 => some [(12, 14), (14, 16), (16, 18)]
 | _ => none
theorem cB9 : d6 (EX md0 XMo) ce2 4 Tryd.f13 = true := by kernel_rfl
theorem HS.sealV {e sz D o nx v n cs} (h : HS e sz D o nx v n cs) {ts : List Tag} {o'' : Ob} (ho : ∀ i, o'' (i, D) = v6 ts o (i, D)) (d : Nat) : A.view o'' (d + 1) v = AV.sl n (cs.map (A.view o'' d)) := by
 rcases h with ⟨rfl, rfl, rfl⟩ | ⟨i, g, rfl, _, h3, h4⟩
 ·rfl
 ·have e : ∃ ro, o'' (i, D) = some (.row ⟨e, sz, g, ro, true, cs⟩) := by
   rw [ho i]; unfold v6; rw [h3]; dsimp only; split <;> exact ⟨_, rfl⟩
  obtain ⟨ro, e⟩ := e
  rw [aR7, e, K1, au6]
  simp only [Nat.zero_add, List.drop_zero]
  rw [if_pos (by omega), d9 h4]
theorem HS.sealT {e sz D o nx v n cs} (h : HS e sz D o nx v n cs) {ts : List Tag} {o'' : Ob} (ho : ∀ i, o'' (i, D) = v6 ts o (i, D)) (d : Nat) (hf : ∀ o, cs.flatMap (a8 o d) = []) : a8 o'' (d + 1) v = a8 o (d + 1) v := by
 rcases h with ⟨rfl, rfl, rfl⟩ | ⟨i, g, rfl, _, h3, h4⟩
 ·rfl
 ·have e : ∃ ro, o'' (i, D) = some (.row ⟨e, sz, g, ro, true, cs⟩) := by
   rw [ho i]; unfold v6; rw [h3]; dsimp only; split <;> exact ⟨_, rfl⟩
  obtain ⟨ro, e⟩ := e
  rw [ax8, ax8, e, h3, K1, K1, ad9, ad9, List.drop_zero, d9 h4, hf, hf]
set_option maxHeartbeats 8000000 in
theorem ce3 (l : List Rw) (ws : List Int) : Ok Tryd.prog 13 [slR l, slI ws] (.bool true) := by
 refine j7 (E := EX md0 XMo) (cr := noR) cB7 (m5 _) mixed (k := 2002) Tryd.func13 cB9 rfl ?_
 have hkn : XMo 14 [] = some (.bool true) := l5 (R := cj4) cc1 ⟨rfl, rfl⟩
 have hfw : XMo 22 [slR l] = some (.bool (bN0 l)) := l5 (R := cJ8) cd4 ⟨_, rfl, rfl⟩
 have hon : XMo 23 [slR l] = some (j5 (an8 l)) := l5 (R := cJ9) cd6 ⟨_, rfl, rfl⟩
 simp only [Tryd.f13, Option.getD_some]
 by_cases hf : bN0 l = true
 ·obtain ⟨r1, r2, r3⟩ := aT1 hf
  obtain ⟨_, r4, _, r5, r6, _⟩ := cb5 hf
  have htx : XMo 25 [j5 (an8 l)] = some (.str (j6 0 (an8 l))) := l5 (R := bJ1) bJ2 ⟨_, r1, r4, Nat.le_trans (r5 0) (by omega), rfl, rfl⟩
  have hg := bt9 r1 r2 (by omega) (by omega)
  have hco : XMo 24 [.str (j6 0 (an8 l))] = some (aA1 (ar6 (j6 0 (an8 l)))) := l5 (R := bI4) bI5 ⟨_, hg, rfl, rfl⟩
  rw [hf] at hfw
  have hcs := aO7 _ hg
  clear hg r1 r2 r3 r4 r5 r6
  generalize j6 0 (an8 l) = s at *
  generalize an8 l = x at *
  obtain ⟨kk, ks, klo, khi, kc⟩ := x
  simp only [j5, o8] at hon htx
  rcases hcs with ⟨e, he, hc⟩ | ⟨n, N, A, hw, hc⟩
  ·rw [hc, aA1] at hco
   simp (disch := omega) only [go_sem, hkn, hfw, hon, htx, hco, he, ce2]
  ·rw [hc, aA1] at hco
   have hm := cv5 hw
   have hm' : WfD (I5 N A).length (R5 N A) ((I5 N A).map (!·)) := ⟨hm.sz, hm.l, by rw [List.length_map], hm.e⟩
   obtain ⟨g1, g2⟩ := bb8 hw.okD
   have hck := cd9 hm
   have hmi := cd8 hm'
   have hfar := ce1 hm hm'
   rw [bJ3 hm] at hfar
   have hfar : XMo 33 [_, _] = some (.tup [.sl 0 [], .bool true]) := hfar
   rw [g1, g2, List.length_map] at hmi
   have hsm := bL1 hm' hm'
   rw [decide_eq_true ⟨rfl, rfl⟩] at hsm
   have hwd := bL2 ws 9 4 (by omega)
   have hgw : aO1 (F9 ws 9 4) := bu5 ws 9
   have hwl := bi8 ws 9 4
   have hr1 := bv5 hm (F9 ws 9 4) (by omega)
   have hr2 := bv5 hm' (F9 ws 9 4) (by omega)
   rw [bG8 hm hgw] at hr2
   have hs1 := cB8 hm'
   have hs2 := ce0 hm
   generalize F9 ws 9 4 = w at *
   clear g1 g2 hc
   generalize R5 N A = M at *
   generalize I5 N A = B at *
   have hsz := hm.sz
   have hml := hm.l
   generalize hk : B.length = k at *
   generalize bv8 k M B w = z at *
   generalize I6 k M = z2 at *
   simp (disch := omega) only [go_sem, hkn, hfw, hon, htx, hco, hck, hml, ce2]
   refine m9 (fun mm a o nx => ∃ (i : Nat) (vA : AV), i ≤ k ∧ mm = k - i ∧ 7 ≤ nx ∧ HS 4 1 56 o nx vA i (cB ((B.map (!·)).take i)) ∧ o (3, 5) = some (.row ⟨27, 1, (3, 5), false, true, [.sl k (cI M), .sl k (cB B)]⟩) ∧
     o (5, 7) = some (.row ⟨27, 1, (5, 7), false, true, [.ref (5, 35) (5, 38) 0 k, vA]⟩) ∧ o (5, 35) = some (.row ⟨54, 5, (5, 38), false, true, cI M⟩) ∧ a 1 = slI ws ∧ a 5 = .ptr (3, 5) (3, 5) 0 ∧ a 7 = .ptr (5, 7) (5, 7) 0 ∧ a 8 = .int .i64 i) k (by omega)
    ⟨0, .nil, by omega, by omega, by omega, by rw [List.take_zero]; exact HS.nil, by simp (disch := omega) only [go_sem], by simp (disch := omega) only [go_sem], by simp (disch := omega) only [go_sem], by simp (disch := omega) only [go_sem], by simp (disch := omega) only [go_sem], by simp (disch := omega) only [go_sem], by simp (disch := omega) only [go_sem]⟩ ?_
   rintro mm a o nx ⟨i, vA, hi, hmm, hnx, hvA, o5, o7, o35, h1, h5, h7, h8⟩
   by_cases hlt : i < k
   ·have q2 := W9 (l := B) (i := i) (s := 1) (by omega)
    obtain ⟨j9, hj9, hap9⟩ := hvA.app (nx + 1) 1 1 [.bool (!B.getD i false)] (by omega) rfl rfl (by simp only [V5]; omega)
    have htk : (B.map (!·)).take (i + 1) = (B.map (!·)).take i ++ [!B.getD i false] := by
     rw [p6 (by rw [List.length_map]; omega) false, U3 (by omega)]
    have hokA := hvA.ok
    have hlA : (cB ((B.map (!·)).take i)).length = i * 1 := by rw [D3, List.length_take, List.length_map]; omega
    generalize B.getD i false = zb at *
    simp (disch := first | omega | (intro _; simp only [b8, Nat.reduceEqDiff, if_false])) only [go_sem, h1, h5, h7, h8, o5, o7, o35, q2, hap9, hokA, ce2]
    refine ⟨k - (i + 1), by omega, i + 1, _, by omega, rfl, by omega, ?_, rfl, rfl⟩
    rw [htk, au4]
    exact HS.grown (m := 1) (new := [.bool (!zb)]) (by omega) (by simp [b8]) hlA rfl
   ·have hie : i = k := by omega
    subst hie
    rw [List.take_of_length_le (by rw [List.length_map]; omega)] at hvA
    have htkM : (cI M).take (i * 5) = cI M := d9 (by rw [f8]; omega)
    have v2 : ∀ o'' : Ob, (∀ i, o'' (i, 56) = o (i, 56)) → view o'' 1011 vA = .sl i (cB (B.map (!·))) := fun o'' h => by rw [(hvA.keep (fun i _ => h i) (Nat.le_refl _)).view 1010, aK9]
    have v3 : ∀ o'' : Ob, (∀ p, o'' (p, 56) = v6 ((5, 35) :: a8 o 1011 vA) o (p, 56)) → view o'' 1011 vA = .sl i (cB (B.map (!·))) := fun o'' h => by rw [hvA.sealV h 1010, aK9]
    have v4 : ∀ o'' : Ob, (∀ p, o'' (p, 56) = v6 ((5, 35) :: a8 o 1011 vA) o (p, 56)) → a8 o'' 1011 vA = a8 o 1011 vA := fun o'' h => hvA.sealT h 1010 (fun o => ax7 o 1010 _)
    have t2 := fun p j h => hvA.nin 1010 (ax7 o 1010 (B.map (!·))) (i := p) (j := j) h
    have t6 : ((a8 o 1011 vA).all fun t => nin t [(5, 7)]) = true := List.all_eq_true.2 fun t ht => by
     have hj := hvA.tags 1010 (ax7 o 1010 _) t ht
     obtain ⟨p, q⟩ := t
     exact ax9 (D := 7) (fun s hs => by rw [List.mem_singleton.1 hs]) (by dsimp only at hj; omega)
    have hbn : ((!z) == z) = false := by cases z <;> rfl
    have hbe : (z2 == z2) = true := beq_self_eq_true _
    simp (disch := first | omega | (intro _; simp (disch := omega) only [go_sem, h1, h5, h7, h8, o5, o7, o35, htkM, v2, v3, v4, t2, t6, hmi, hfar, hsm, hwd, hr1, hr2, hs1, hs2, hbn, hbe, Y6, Y7, aA0, ce2, Bool.and_true, Bool.not_false, Bool.not_true, List.append_nil])) only [go_sem, h1, h5, h7, h8, o5, o7, o35, htkM, v2, v3, v4, t2, t6, hmi, hfar, hsm, hwd, hr1, hr2, hs1, hs2, hbn, hbe, Y6, Y7, aA0, ce2, Bool.and_true, Bool.not_false, Bool.not_true, List.append_nil]
 ·rw [show bN0 l = false by simpa using hf] at hfw
  simp (disch := omega) only [go_sem, hkn, hfw, ce2]
end Go.Proofs.YtpmjpogcaglphaaDoor.A
namespace Go.Proofs.YtpmjpogcaglphaaDoor
open Go Go.Proofs.YtpmjpogcaglphaaDoor.A
set_option maxRecDepth 100000 in
theorem miniOther_lifted (os : Os) (started : os.Started) (H : Type) (enc : TypeId × Value → H) :
  ReturnsInHanded {} Tryd.checked os 13 .any (fun w args => (Rows.miniOtherSpec.pre enc Tryd.prog Tryd.f13 [] false w args ∧ laidMetH Tryd.prog laidL w) ∧ sizedMet enc Tryd.prog Tryd.f13 (OpenSpec.ofChange Rows.miniOtherSpec) false w args) (Rows.miniOtherSpec.post enc Tryd.prog Tryd.f13 false true false false) :=
 bC4 (C := Tryd.checked) (L := laidL) laidL_noh Tryd.own started (by kernel_rfl) Tryd.func13
  (ChangeSpec.witness_at (enc := enc) (C := Tryd.checked) (os := os) (X := fun w _ => laidMetH Tryd.prog laidL w) false (laidWorld os) #[.slice none 0 0, .slice none 0 0] 8 rfl (by kernel_rfl) (by kernel_rfl) (by kernel_rfl) (by kernel_rfl) (by kernel_rfl) (laidWorld_met os _))
  Tryd.laidOut (ks := [33, 22, 75, 3]) (by kernel_rfl) (by kernel_rfl) (tb := 4) (by kernel_rfl) (by kernel_rfl) rfl
  (fun ds hds => by
   match ds, hds with
   | [_, _], _ => exact ⟨rfl, rfl, rfl⟩)
  laid_gl (fun xs hxs => by
   rw [show Tryd.f13.params.toList = [33, 22] from rfl] at hxs
   match xs, hxs with
   | [x1, x2], ⟨h1, h2, _⟩ =>
    obtain ⟨n1, rfl⟩ := bL0 h1
    obtain ⟨n2, rfl, _⟩ := bC2 (e := 3) (by kernel_rfl) (by kernel_rfl) h2
    exact ce3 n1 n2)
theorem miniOther_row_holds : Rows.MiniOtherSaid :=
 OpenClaim.holds_of_wide 13 Tryd.f13 rfl rfl rfl rfl rfl rfl rfl ⟨rfl, rfl, rfl, rfl, rfl⟩ rfl rfl rfl rfl rfl (by kernel_rfl) Tryd.func13 (by kernel_rfl)
  (of_decide_eq_true (by kernel_rfl)) (by unfold Func.isWrapper; first | (rw [if_pos (by decide +kernel)]; kernel_rfl) | (rw [if_neg (by decide +kernel)]; exact ⟨rfl, rfl⟩))
  (fun os started H enc _ => miniOther_lifted os started H enc)
theorem miniOther_card_holds : Rows.MiniOtherCardSaid :=
 Claim7.holds_tied_plain_at .later [] [.data, .data, .data] true (true, "102ca1f5da5c52998f5edfe949f841430b613cce0079492f5bc01c543bb3a885") false
  miniOther_row_holds (fun _ h => by cases h) (by kernel_rfl) (fun _ h => by cases h) miniOther_row_tie rfl ⟨rfl, rfl⟩ (by kernel_rfl) rfl
  (fun f fn hf hfn => by
   obtain rfl : f = 13 := (Option.some.inj ((show Tryd.prog.funcNamed "milestone/milestonelaw8.MiniOther" = some 13 by kernel_rfl).symm.trans hf)).symm
   obtain rfl : fn = Tryd.f13 := (Option.some.inj (Tryd.func13.symm.trans hfn)).symm
   refine ⟨by kernel_rfl, fun j t ht => ?_⟩
   exact (wants_all (by kernel_rfl : (Tryd.f13.params.toList.all fun t => !Tryd.prog.wantsStandIn t) = true) ht))
  (by kernel_rfl)
end Go.Proofs.YtpmjpogcaglphaaDoor
