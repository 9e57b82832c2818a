/- RegexSets answers true for whatever it is called with. -/
import Derived.Test.YtmcbfbpdfbcakaaDoorMLRSets1
import Derived.Test.YtmcbfbpdfbcakaaDoorMLRSets2
import Derived.Test.YtmcbfbpdfbcakaaDoorMLRSets3
import Derived.Test.YtmcbfbpdfbcakaaDoorMLRSets4
import Derived.Test.YtmcbfbpdfbcakaaDoorMLRSets5
import Derived.Test.YtmcbfbpdfbcakaaDoorMLRSets6
set_option linter.unusedVariables false
set_option linter.unusedSimpArgs false
set_option linter.unnecessarySimpa false
/- Expressions read: Parse's contract. -/
namespace Go.Proofs.YtmcbfbpdfbcakaaDoor.A
open Go
set_option maxRecDepth 20000
theorem lab2 {s : List UInt8} {R : Nd × Int × Int} {a : AAct} {o : Ob} {nx : Nat} {at_ U J B g b D pre vU vJ post} (h : PS s a o nx at_ U J B g b D pre vU vJ post) (hR : (zeroN, at_, 3) = R) {Q : WPost} (qr : ∀ a o nx, RetOK R a o → Q .ret a o nx) {k : Nat} :
    WP (EX md0 XPz) crP k nzP r2 a o nx Q := by
  obtain ⟨a0, a2, a5, a6, a7, o2, stk, bel, b3, bn, lv, D1, U1, J1, at0, at1⟩ := h
  have hcell := stk.cell
  have hpar := stk.par
  simp only [r2, bP, pathC, Tryd.f18, Option.getD_some]
  simp (disch := omega) only [go_sem, ↓IntWalk.iteOmega, IntWalk.toNatUp, Nat.reduceEqDiff, Nat.reduceAdd, Nat.reduceMul, Nat.reduceSub, Nat.reduceLT, Nat.reduceLeDiff, Int.reduceToNat, Int.reduceLT, Int.reduceLE, Int.reduceEq, Int.reduceAdd, Int.reduceSub, Int.reduceMul, Int.toNat_natCast, reduceCtorEq, decide_true, decide_false, IntWalk.i64_in, IntWalk.u64_in, IntWalk.u8_in, nzP, a0, a2, a5, a6, a7, o2, hcell, hpar]
  subst hR
  exact qr _ _ _ ⟨by simp (disch := omega) only [go_sem, ↓IntWalk.iteOmega, IntWalk.toNatUp, Nat.reduceEqDiff, Nat.reduceAdd, Nat.reduceMul, Nat.reduceSub, Nat.reduceLT, Nat.reduceLeDiff, Int.reduceToNat, Int.reduceLT, Int.reduceLE, Int.reduceEq, Int.reduceAdd, Int.reduceSub, Int.reduceMul, Int.toNat_natCast, reduceCtorEq, decide_true, decide_false, IntWalk.i64_in, IntWalk.u64_in, IntWalk.u8_in, a2], ⟨nd0, by simp (disch := omega) only [go_sem, ↓IntWalk.iteOmega, IntWalk.toNatUp, Nat.reduceEqDiff, Nat.reduceAdd, Nat.reduceMul, Nat.reduceSub, Nat.reduceLT, Nat.reduceLeDiff, Int.reduceToNat, Int.reduceLT, Int.reduceLE, Int.reduceEq, Int.reduceAdd, Int.reduceSub, Int.reduceMul, Int.toNat_natCast, reduceCtorEq, decide_true, decide_false, IntWalk.i64_in, IntWalk.u64_in, IntWalk.u8_in], rfl, zero_view⟩, by simp (disch := omega) only [go_sem, ↓IntWalk.iteOmega, IntWalk.toNatUp, Nat.reduceEqDiff, Nat.reduceAdd, Nat.reduceMul, Nat.reduceSub, Nat.reduceLT, Nat.reduceLeDiff, Int.reduceToNat, Int.reduceLT, Int.reduceLE, Int.reduceEq, Int.reduceAdd, Int.reduceSub, Int.reduceMul, Int.toNat_natCast, reduceCtorEq, decide_true, decide_false, IntWalk.i64_in, IntWalk.u64_in, IntWalk.u8_in], by simp (disch := omega) only [go_sem, ↓IntWalk.iteOmega, IntWalk.toNatUp, Nat.reduceEqDiff, Nat.reduceAdd, Nat.reduceMul, Nat.reduceSub, Nat.reduceLT, Nat.reduceLeDiff, Int.reduceToNat, Int.reduceLT, Int.reduceLE, Int.reduceEq, Int.reduceAdd, Int.reduceSub, Int.reduceMul, Int.toNat_natCast, reduceCtorEq, decide_true, decide_false, IntWalk.i64_in, IntWalk.u64_in, IntWalk.u8_in]⟩
theorem lab0 {s : List UInt8} {R : Nd × Int × Int} {a : AAct} {o : Ob} {nx : Nat} {at_ U J B g b D pre vU vJ post} (h : PS s a o nx at_ U J B g b D pre vU vJ post) (hR : (if B ≠ [] ∨ J = [] then (zeroN, at_, 3) else (manyN 5 (U ++ [manyN 4 J]), 0, 0)) = R) {Q : WPost}
    (q2 : ∀ a o nx, PI s R 2 0 a o nx → Q (.goto 2) a o nx) (qr : ∀ a o nx, RetOK R a o → Q .ret a o nx) {k : Nat} :
    WP (EX md0 XPz) crP k nzP r0 a o nx Q := by
  have hps := h
  obtain ⟨a0, a2, a5, a6, a7, o2, stk, bel, b3, bn, lv, D1, U1, J1, at0, at1⟩ := h
  have hcell := stk.cell
  have hpar := stk.par
  have hlev := stk.lev
  have hpre := stk.len
  have hle := stk.le
  have d0 : ∀ x y : AV, (pre ++ x :: y :: post).drop (B.length * 2) = x :: y :: post := fun x y => drop_p0 hpre
  have d1 : ∀ x y : AV, (pre ++ x :: y :: post).drop (B.length * 2 + 1) = y :: post := fun x y => drop_p1 hpre
  have h6 : ∀ x y : AV, (pre ++ x :: y :: post).length = B.length * 2 + (post.length + 2) := fun x y => by rw [List.length_append, hpre]; rfl
  simp only [r0, bP, pathC, Tryd.f18, Option.getD_some]
  by_cases c1 : B = []
  · have hBl : B.length = 0 := by rw [c1]; rfl
    by_cases c2 : J = []
    · rw [if_pos (.inr c2)] at hR
      have hvJ : vJ = .nil ∨ ∃ i gj, vJ = .ref (i, 11) gj 0 0 := by
        rcases lv.j with ⟨e, _⟩ | ⟨i, gj, cs, _, _, e, _, _⟩
        · exact .inl e
        · exact .inr ⟨i, gj, by rw [e, c2]; rfl⟩
      simp (disch := omega) only [go_sem, ↓IntWalk.iteOmega, IntWalk.toNatUp, Nat.reduceEqDiff, Nat.reduceAdd, Nat.reduceMul, Nat.reduceSub, Nat.reduceLT, Nat.reduceLeDiff, Int.reduceToNat, Int.reduceLT, Int.reduceLE, Int.reduceEq, Int.reduceAdd, Int.reduceSub, Int.reduceMul, Int.toNat_natCast, reduceCtorEq, decide_true, decide_false, IntWalk.i64_in, IntWalk.u64_in, IntWalk.u8_in, nzP, a0, a2, a5, a6, a7, o2, hcell, hpar, hlev, crP_top]
      refine top_call (stk.keep (by omega) rfl rfl rfl) ?_
      rcases hvJ with rfl | ⟨i, gj, rfl⟩
      · simp (disch := omega) only [go_sem, ↓IntWalk.iteOmega, IntWalk.toNatUp, Nat.reduceEqDiff, Nat.reduceAdd, Nat.reduceMul, Nat.reduceSub, Nat.reduceLT, Nat.reduceLeDiff, Int.reduceToNat, Int.reduceLT, Int.reduceLE, Int.reduceEq, Int.reduceAdd, Int.reduceSub, Int.reduceMul, Int.toNat_natCast, reduceCtorEq, decide_true, decide_false, IntWalk.i64_in, IntWalk.u64_in, IntWalk.u8_in, nzP, a0, a2, a5, a6, a7, o2, hcell, hpar, hlev, d0, d1, h6]
        exact q2 _ _ _ ⟨_, _, _, _, _, _, _, _, _, _, _, hps.same (by unfold AOk; simp (disch := omega) only [go_sem, ↓IntWalk.iteOmega, IntWalk.toNatUp, Nat.reduceEqDiff, Nat.reduceAdd, Nat.reduceMul, Nat.reduceSub, Nat.reduceLT, Nat.reduceLeDiff, Int.reduceToNat, Int.reduceLT, Int.reduceLE, Int.reduceEq, Int.reduceAdd, Int.reduceSub, Int.reduceMul, Int.toNat_natCast, reduceCtorEq, decide_true, decide_false, IntWalk.i64_in, IntWalk.u64_in, IntWalk.u8_in, a0, a2, a5, a6, a7]) (by omega), .inr (.inr ⟨rfl, rfl, hR⟩)⟩
      · simp (disch := omega) only [go_sem, ↓IntWalk.iteOmega, IntWalk.toNatUp, Nat.reduceEqDiff, Nat.reduceAdd, Nat.reduceMul, Nat.reduceSub, Nat.reduceLT, Nat.reduceLeDiff, Int.reduceToNat, Int.reduceLT, Int.reduceLE, Int.reduceEq, Int.reduceAdd, Int.reduceSub, Int.reduceMul, Int.toNat_natCast, reduceCtorEq, decide_true, decide_false, IntWalk.i64_in, IntWalk.u64_in, IntWalk.u8_in, nzP, a0, a2, a5, a6, a7, o2, hcell, hpar, hlev, d0, d1, h6]
        exact q2 _ _ _ ⟨_, _, _, _, _, _, _, _, _, _, _, hps.same (by unfold AOk; simp (disch := omega) only [go_sem, ↓IntWalk.iteOmega, IntWalk.toNatUp, Nat.reduceEqDiff, Nat.reduceAdd, Nat.reduceMul, Nat.reduceSub, Nat.reduceLT, Nat.reduceLeDiff, Int.reduceToNat, Int.reduceLT, Int.reduceLE, Int.reduceEq, Int.reduceAdd, Int.reduceSub, Int.reduceMul, Int.toNat_natCast, reduceCtorEq, decide_true, decide_false, IntWalk.i64_in, IntWalk.u64_in, IntWalk.u8_in, a0, a2, a5, a6, a7]) (by omega), .inr (.inr ⟨rfl, rfl, hR⟩)⟩
    · rw [if_neg (by simp [c1, c2])] at hR
      have hJl : ¬ J.length = 0 := fun e => c2 (List.length_eq_zero_iff.1 e)
      obtain ⟨i, gj, rfl⟩ : ∃ i gj, vJ = .ref (i, 11) gj 0 J.length := by
        rcases lv.j with ⟨_, e⟩ | ⟨i, gj, cs, _, _, e, _, _⟩
        · exact absurd e c2
        · exact ⟨i, gj, e⟩
      simp (disch := omega) only [go_sem, ↓IntWalk.iteOmega, IntWalk.toNatUp, Nat.reduceEqDiff, Nat.reduceAdd, Nat.reduceMul, Nat.reduceSub, Nat.reduceLT, Nat.reduceLeDiff, Int.reduceToNat, Int.reduceLT, Int.reduceLE, Int.reduceEq, Int.reduceAdd, Int.reduceSub, Int.reduceMul, Int.toNat_natCast, reduceCtorEq, decide_true, decide_false, IntWalk.i64_in, IntWalk.u64_in, IntWalk.u8_in, nzP, a0, a2, a5, a6, a7, o2, hcell, hpar, hlev, crP_top]
      refine top_call (stk.keep (by omega) rfl rfl rfl) ?_
      simp (disch := omega) only [go_sem, ↓IntWalk.iteOmega, IntWalk.toNatUp, Nat.reduceEqDiff, Nat.reduceAdd, Nat.reduceMul, Nat.reduceSub, Nat.reduceLT, Nat.reduceLeDiff, Int.reduceToNat, Int.reduceLT, Int.reduceLE, Int.reduceEq, Int.reduceAdd, Int.reduceSub, Int.reduceMul, Int.toNat_natCast, reduceCtorEq, decide_true, decide_false, IntWalk.i64_in, IntWalk.u64_in, IntWalk.u8_in, nzP, a0, a2, a5, a6, a7, o2, hcell, hpar, hlev, d0, d1, h6, hJl, crP_top]
      refine top_call (stk.keep (by omega) rfl rfl rfl) ?_
      simp (disch := omega) only [go_sem, ↓IntWalk.iteOmega, IntWalk.toNatUp, Nat.reduceEqDiff, Nat.reduceAdd, Nat.reduceMul, Nat.reduceSub, Nat.reduceLT, Nat.reduceLeDiff, Int.reduceToNat, Int.reduceLT, Int.reduceLE, Int.reduceEq, Int.reduceAdd, Int.reduceSub, Int.reduceMul, Int.toNat_natCast, reduceCtorEq, decide_true, decide_false, IntWalk.i64_in, IntWalk.u64_in, IntWalk.u8_in, nzP, a0, a2, a5, a6, a7, o2, hcell, hpar, hlev, d0, d1, h6, hJl, crP_or]
      refine or_call (stk.keep (by omega) rfl rfl rfl) (lv.keep (by omega) (fun _ _ _ _ _ => rfl)) b3 (by omega) (by omega) c2 (by omega) (by omega) (fun o1 nx1 vU1 e1 e2 e3 e4 => ?_)
      have hcell1 := e2.cell
      have hpar1 := e2.par
      have hlev1 := e2.lev
      have o21 := (e4.o2 b3 (by omega)).trans o2
      simp (disch := omega) only [go_sem, ↓IntWalk.iteOmega, IntWalk.toNatUp, Nat.reduceEqDiff, Nat.reduceAdd, Nat.reduceMul, Nat.reduceSub, Nat.reduceLT, Nat.reduceLeDiff, Int.reduceToNat, Int.reduceLT, Int.reduceLE, Int.reduceEq, Int.reduceAdd, Int.reduceSub, Int.reduceMul, Int.toNat_natCast, reduceCtorEq, decide_true, decide_false, IntWalk.i64_in, IntWalk.u64_in, IntWalk.u8_in, nzP, a0, a2, a5, a6, a7, hcell1, hpar1, hlev1, crP_top]
      refine top_call (e2.keep (by omega) rfl rfl rfl) ?_
      have hne : U ++ [manyN 4 J] ≠ [] := by simp
      have hUl : (U ++ [manyN 4 J]).length ≤ 1000 := by rw [List.length_append, List.length_singleton]; omega
      have hv := e3.viewU hne
      have ht := e3.tagsU
      have hX := XPz_many 5 (U ++ [manyN 4 J]) hne hUl
      generalize U ++ [manyN 4 J] = W at *
      have hn : ∀ i k, k ≠ 14 → nin (i, k) (viewTags o1 1012 vU1) = true := fun i k e1 => nin_of (fun hm => e1 (ht _ hm).1)
      simp (disch := omega) only [go_sem, ↓IntWalk.iteOmega, IntWalk.toNatUp, Nat.reduceEqDiff, Nat.reduceAdd, Nat.reduceMul, Nat.reduceSub, Nat.reduceLT, Nat.reduceLeDiff, Int.reduceToNat, Int.reduceLT, Int.reduceLE, Int.reduceEq, Int.reduceAdd, Int.reduceSub, Int.reduceMul, Int.toNat_natCast, reduceCtorEq, decide_true, decide_false, IntWalk.i64_in, IntWalk.u64_in, IntWalk.u8_in, nzP, a0, a2, a5, a6, a7, hcell1, hpar1, hlev1, o21, d0, d1, h6, hv, hX, hn]
      subst hR
      exact qr _ _ _ ⟨by simp (disch := omega) only [go_sem, ↓IntWalk.iteOmega, IntWalk.toNatUp, Nat.reduceEqDiff, Nat.reduceAdd, Nat.reduceMul, Nat.reduceSub, Nat.reduceLT, Nat.reduceLeDiff, Int.reduceToNat, Int.reduceLT, Int.reduceLE, Int.reduceEq, Int.reduceAdd, Int.reduceSub, Int.reduceMul, Int.toNat_natCast, reduceCtorEq, decide_true, decide_false, IntWalk.i64_in, IntWalk.u64_in, IntWalk.u8_in, a2], ⟨cNd (manyN 5 W), by simp (disch := omega) only [go_sem, ↓IntWalk.iteOmega, IntWalk.toNatUp, Nat.reduceEqDiff, Nat.reduceAdd, Nat.reduceMul, Nat.reduceSub, Nat.reduceLT, Nat.reduceLeDiff, Int.reduceToNat, Int.reduceLT, Int.reduceLE, Int.reduceEq, Int.reduceAdd, Int.reduceSub, Int.reduceMul, Int.toNat_natCast, reduceCtorEq, decide_true, decide_false, IntWalk.i64_in, IntWalk.u64_in, IntWalk.u8_in], cNd_length _, fun o' e => view_cNd o' e _⟩, by simp (disch := omega) only [go_sem, ↓IntWalk.iteOmega, IntWalk.toNatUp, Nat.reduceEqDiff, Nat.reduceAdd, Nat.reduceMul, Nat.reduceSub, Nat.reduceLT, Nat.reduceLeDiff, Int.reduceToNat, Int.reduceLT, Int.reduceLE, Int.reduceEq, Int.reduceAdd, Int.reduceSub, Int.reduceMul, Int.toNat_natCast, reduceCtorEq, decide_true, decide_false, IntWalk.i64_in, IntWalk.u64_in, IntWalk.u8_in], by simp (disch := omega) only [go_sem, ↓IntWalk.iteOmega, IntWalk.toNatUp, Nat.reduceEqDiff, Nat.reduceAdd, Nat.reduceMul, Nat.reduceSub, Nat.reduceLT, Nat.reduceLeDiff, Int.reduceToNat, Int.reduceLT, Int.reduceLE, Int.reduceEq, Int.reduceAdd, Int.reduceSub, Int.reduceMul, Int.toNat_natCast, reduceCtorEq, decide_true, decide_false, IntWalk.i64_in, IntWalk.u64_in, IntWalk.u8_in]⟩
  · rw [if_pos (.inl c1)] at hR
    have hBl : ¬ B.length = 0 := fun e => c1 (List.length_eq_zero_iff.1 e)
    simp (disch := omega) only [go_sem, ↓IntWalk.iteOmega, IntWalk.toNatUp, Nat.reduceEqDiff, Nat.reduceAdd, Nat.reduceMul, Nat.reduceSub, Nat.reduceLT, Nat.reduceLeDiff, Int.reduceToNat, Int.reduceLT, Int.reduceLE, Int.reduceEq, Int.reduceAdd, Int.reduceSub, Int.reduceMul, Int.toNat_natCast, reduceCtorEq, decide_true, decide_false, IntWalk.i64_in, IntWalk.u64_in, IntWalk.u8_in, nzP, a0, a2, a5, a6, a7, o2, hcell, hpar, hlev, crP_top]
    exact q2 _ _ _ ⟨_, _, _, _, _, _, _, _, _, _, _, hps.same (by unfold AOk; simp (disch := omega) only [go_sem, ↓IntWalk.iteOmega, IntWalk.toNatUp, Nat.reduceEqDiff, Nat.reduceAdd, Nat.reduceMul, Nat.reduceSub, Nat.reduceLT, Nat.reduceLeDiff, Int.reduceToNat, Int.reduceLT, Int.reduceLE, Int.reduceEq, Int.reduceAdd, Int.reduceSub, Int.reduceMul, Int.toNat_natCast, reduceCtorEq, decide_true, decide_false, IntWalk.i64_in, IntWalk.u64_in, IntWalk.u8_in, a0, a2, a5, a6, a7]) (by omega), .inr (.inr ⟨rfl, rfl, hR⟩)⟩
theorem parse_step {s : List UInt8} {R : Nd × Int × Int} (hs : s.length ≤ 200) {l m : Nat} {a : AAct} {o : Ob} {nx : Nat} {rest : Code} (hf : findLabel xP l = some rest) (hI : PI s R l m a o nx) {k : Nat} {Q : WPost} (qr : ∀ a o nx, RetOK R a o → Q .ret a o nx) : WP (EX md0 XPz) crP k nzP rest a o nx (scopeQ xP (PI s R) m Q) := by
  obtain ⟨at_, U, J, B, g, b, D, pre, vU, vJ, post, hps, hc⟩ := hI
  rcases hc with ⟨rfl, f, rfl, hf1, hf2, hR⟩ | ⟨rfl, rfl, hR⟩ | ⟨rfl, rfl, hR⟩
  · rw [fl1] at hf
    injection hf with hf
    subst hf
    have := lab1 hs hps hf1 hf2 hR (Q := scopeQ xP (PI s R) (f + 2) Q) (k := k) (fun a o nx m' h1 h2 => by rw [scopeQ_goto fl1]; exact ⟨m', h1, h2⟩) (fun a o nx m' h1 h2 => by rw [scopeQ_goto fl0]; exact ⟨m', h1, h2⟩) (fun a o nx m' h1 h2 => by rw [scopeQ_goto fl2]; exact ⟨m', h1, h2⟩) (fun a o nx h => qr a o nx h)
    simp (disch := omega) only [go_sem, ↓IntWalk.iteOmega, IntWalk.toNatUp, Nat.reduceEqDiff, Nat.reduceAdd, Nat.reduceMul, Nat.reduceSub, Nat.reduceLT, Nat.reduceLeDiff, Int.reduceToNat, Int.reduceLT, Int.reduceLE, Int.reduceEq, Int.reduceAdd, Int.reduceSub, Int.reduceMul, Int.toNat_natCast, reduceCtorEq, decide_true, decide_false, IntWalk.i64_in, IntWalk.u64_in, IntWalk.u8_in]
    exact this
  · rw [fl0] at hf
    injection hf with hf
    subst hf
    have := lab0 hps hR (Q := scopeQ xP (PI s R) 1 Q) (k := k) (fun a o nx h2 => by rw [scopeQ_goto fl2]; exact ⟨0, by omega, h2⟩) (fun a o nx h => qr a o nx h)
    simp (disch := omega) only [go_sem, ↓IntWalk.iteOmega, IntWalk.toNatUp, Nat.reduceEqDiff, Nat.reduceAdd, Nat.reduceMul, Nat.reduceSub, Nat.reduceLT, Nat.reduceLeDiff, Int.reduceToNat, Int.reduceLT, Int.reduceLE, Int.reduceEq, Int.reduceAdd, Int.reduceSub, Int.reduceMul, Int.toNat_natCast, reduceCtorEq, decide_true, decide_false, IntWalk.i64_in, IntWalk.u64_in, IntWalk.u8_in]
    exact this
  · rw [fl2] at hf
    injection hf with hf
    subst hf
    have := lab2 hps hR (Q := scopeQ xP (PI s R) 0 Q) (k := k) (fun a o nx h => qr a o nx h)
    simp (disch := omega) only [go_sem, ↓IntWalk.iteOmega, IntWalk.toNatUp, Nat.reduceEqDiff, Nat.reduceAdd, Nat.reduceMul, Nat.reduceSub, Nat.reduceLT, Nat.reduceLeDiff, Int.reduceToNat, Int.reduceLT, Int.reduceLE, Int.reduceEq, Int.reduceAdd, Int.reduceSub, Int.reduceMul, Int.toNat_natCast, reduceCtorEq, decide_true, decide_false, IntWalk.i64_in, IntWalk.u64_in, IntWalk.u8_in]
    exact this
noncomputable def x1 : Code := pathC [1, 0, 0] bP
noncomputable def x3 : Code := pathC [1, 0, 1, 0] bP
noncomputable def x4 : Code := pathC [1, 0, 1, 1, 0] bP
noncomputable def x5 : Code := pathC [1, 0, 1, 1, 1, 0] bP
noncomputable def x0 : Code := pathC [0] bP
theorem xP_seq : xP = .seq x1 (.seq x3 (.seq x4 (.seq x5 (.seq (.label 1) r1)))) := by kernel_rfl
theorem bP_seq : bP = .seq x0 (.scope xP) := by kernel_rfl
theorem parse_large {s : List UInt8} (hs : 200 < s.length) {a : AAct} {o : Ob} {nx : Nat} (a0 : a 0 = .str s) (a2 : a 2 = .ptr (0, 2) (0, 2) 0) (o2 : o (0, 2) = some (.row ⟨29, 1, (0, 2), false, true, nd0⟩)) {Q : WPost} (qr : ∀ a o nx, RetOK (zeroN, 0, 4) a o → Q .ret a o nx) {k : Nat} :
    WP (EX md0 XPz) crP k nzP xP a o nx Q := by
  rw [xP_seq]
  simp only [x1, bP, pathC, Tryd.f18, Option.getD_some]
  simp (disch := omega) only [go_sem, ↓IntWalk.iteOmega, IntWalk.toNatUp, Nat.reduceEqDiff, Nat.reduceAdd, Nat.reduceMul, Nat.reduceSub, Nat.reduceLT, Nat.reduceLeDiff, Int.reduceToNat, Int.reduceLT, Int.reduceLE, Int.reduceEq, Int.reduceAdd, Int.reduceSub, Int.reduceMul, Int.toNat_natCast, reduceCtorEq, decide_true, decide_false, IntWalk.i64_in, IntWalk.u64_in, IntWalk.u8_in, nzP, a0, a2, o2]
  exact qr _ _ _ ⟨by simp (disch := omega) only [go_sem, ↓IntWalk.iteOmega, IntWalk.toNatUp, Nat.reduceEqDiff, Nat.reduceAdd, Nat.reduceMul, Nat.reduceSub, Nat.reduceLT, Nat.reduceLeDiff, Int.reduceToNat, Int.reduceLT, Int.reduceLE, Int.reduceEq, Int.reduceAdd, Int.reduceSub, Int.reduceMul, Int.toNat_natCast, reduceCtorEq, decide_true, decide_false, IntWalk.i64_in, IntWalk.u64_in, IntWalk.u8_in, a2], ⟨nd0, by simp (disch := omega) only [go_sem, ↓IntWalk.iteOmega, IntWalk.toNatUp, Nat.reduceEqDiff, Nat.reduceAdd, Nat.reduceMul, Nat.reduceSub, Nat.reduceLT, Nat.reduceLeDiff, Int.reduceToNat, Int.reduceLT, Int.reduceLE, Int.reduceEq, Int.reduceAdd, Int.reduceSub, Int.reduceMul, Int.toNat_natCast, reduceCtorEq, decide_true, decide_false, IntWalk.i64_in, IntWalk.u64_in, IntWalk.u8_in], rfl, zero_view⟩, by simp (disch := omega) only [go_sem, ↓IntWalk.iteOmega, IntWalk.toNatUp, Nat.reduceEqDiff, Nat.reduceAdd, Nat.reduceMul, Nat.reduceSub, Nat.reduceLT, Nat.reduceLeDiff, Int.reduceToNat, Int.reduceLT, Int.reduceLE, Int.reduceEq, Int.reduceAdd, Int.reduceSub, Int.reduceMul, Int.toNat_natCast, reduceCtorEq, decide_true, decide_false, IntWalk.i64_in, IntWalk.u64_in, IntWalk.u8_in], by simp (disch := omega) only [go_sem, ↓IntWalk.iteOmega, IntWalk.toNatUp, Nat.reduceEqDiff, Nat.reduceAdd, Nat.reduceMul, Nat.reduceSub, Nat.reduceLT, Nat.reduceLeDiff, Int.reduceToNat, Int.reduceLT, Int.reduceLE, Int.reduceEq, Int.reduceAdd, Int.reduceSub, Int.reduceMul, Int.toNat_natCast, reduceCtorEq, decide_true, decide_false, IntWalk.i64_in, IntWalk.u64_in, IntWalk.u8_in]⟩
theorem parse_start {s : List UInt8} (hs : s.length ≤ 200) {a : AAct} {o : Ob} (a0 : a 0 = .str s) (a2 : a 2 = .ptr (0, 2) (0, 2) 0) (o2 : o (0, 2) = some (.row ⟨29, 1, (0, 2), false, true, nd0⟩)) {Q : WPost} {k : Nat}
    (hq : ∀ a o nx, PS s a o nx 0 [] [] [] (2, 21) 3 0 [] .nil .nil [] → WP (EX md0 XPz) crP k nzP r1 a o nx Q) :
    WP (EX md0 XPz) crP k nzP xP a o 1 Q := by
  rw [xP_seq]
  simp only [x1, x3, x4, x5, bP, pathC, Tryd.f18, Option.getD_some]
  simp (disch := omega) only [go_sem, ↓IntWalk.iteOmega, IntWalk.toNatUp, Nat.reduceEqDiff, Nat.reduceAdd, Nat.reduceMul, Nat.reduceSub, Nat.reduceLT, Nat.reduceLeDiff, Int.reduceToNat, Int.reduceLT, Int.reduceLE, Int.reduceEq, Int.reduceAdd, Int.reduceSub, Int.reduceMul, Int.toNat_natCast, reduceCtorEq, decide_true, decide_false, IntWalk.i64_in, IntWalk.u64_in, IntWalk.u8_in, nzP, a0, a2, o2]
  exact hq _ _ _ ⟨by simp (disch := omega) only [go_sem, ↓IntWalk.iteOmega, IntWalk.toNatUp, Nat.reduceEqDiff, Nat.reduceAdd, Nat.reduceMul, Nat.reduceSub, Nat.reduceLT, Nat.reduceLeDiff, Int.reduceToNat, Int.reduceLT, Int.reduceLE, Int.reduceEq, Int.reduceAdd, Int.reduceSub, Int.reduceMul, Int.toNat_natCast, reduceCtorEq, decide_true, decide_false, IntWalk.i64_in, IntWalk.u64_in, IntWalk.u8_in, a0], by simp (disch := omega) only [go_sem, ↓IntWalk.iteOmega, IntWalk.toNatUp, Nat.reduceEqDiff, Nat.reduceAdd, Nat.reduceMul, Nat.reduceSub, Nat.reduceLT, Nat.reduceLeDiff, Int.reduceToNat, Int.reduceLT, Int.reduceLE, Int.reduceEq, Int.reduceAdd, Int.reduceSub, Int.reduceMul, Int.toNat_natCast, reduceCtorEq, decide_true, decide_false, IntWalk.i64_in, IntWalk.u64_in, IntWalk.u8_in, a2], by simp (disch := omega) only [go_sem, ↓IntWalk.iteOmega, IntWalk.toNatUp, Nat.reduceEqDiff, Nat.reduceAdd, Nat.reduceMul, Nat.reduceSub, Nat.reduceLT, Nat.reduceLeDiff, Int.reduceToNat, Int.reduceLT, Int.reduceLE, Int.reduceEq, Int.reduceAdd, Int.reduceSub, Int.reduceMul, Int.toNat_natCast, reduceCtorEq, decide_true, decide_false, IntWalk.i64_in, IntWalk.u64_in, IntWalk.u8_in], by simp (disch := omega) only [go_sem, ↓IntWalk.iteOmega, IntWalk.toNatUp, Nat.reduceEqDiff, Nat.reduceAdd, Nat.reduceMul, Nat.reduceSub, Nat.reduceLT, Nat.reduceLeDiff, Int.reduceToNat, Int.reduceLT, Int.reduceLE, Int.reduceEq, Int.reduceAdd, Int.reduceSub, Int.reduceMul, Int.toNat_natCast, reduceCtorEq, decide_true, decide_false, IntWalk.i64_in, IntWalk.u64_in, IntWalk.u8_in], by simp (disch := omega) only [go_sem, ↓IntWalk.iteOmega, IntWalk.toNatUp, Nat.reduceEqDiff, Nat.reduceAdd, Nat.reduceMul, Nat.reduceSub, Nat.reduceLT, Nat.reduceLeDiff, Int.reduceToNat, Int.reduceLT, Int.reduceLE, Int.reduceEq, Int.reduceAdd, Int.reduceSub, Int.reduceMul, Int.toNat_natCast, reduceCtorEq, decide_true, decide_false, IntWalk.i64_in, IntWalk.u64_in, IntWalk.u8_in], by simp (disch := omega) only [go_sem, ↓IntWalk.iteOmega, IntWalk.toNatUp, Nat.reduceEqDiff, Nat.reduceAdd, Nat.reduceMul, Nat.reduceSub, Nat.reduceLT, Nat.reduceLeDiff, Int.reduceToNat, Int.reduceLT, Int.reduceLE, Int.reduceEq, Int.reduceAdd, Int.reduceSub, Int.reduceMul, Int.toNat_natCast, reduceCtorEq, decide_true, decide_false, IntWalk.i64_in, IntWalk.u64_in, IntWalk.u8_in, o2], ⟨by omega, by simp (disch := omega) only [go_sem, ↓IntWalk.iteOmega, IntWalk.toNatUp, Nat.reduceEqDiff, Nat.reduceAdd, Nat.reduceMul, Nat.reduceSub, Nat.reduceLT, Nat.reduceLeDiff, Int.reduceToNat, Int.reduceLT, Int.reduceLE, Int.reduceEq, Int.reduceAdd, Int.reduceSub, Int.reduceMul, Int.toNat_natCast, reduceCtorEq, decide_true, decide_false, IntWalk.i64_in, IntWalk.u64_in, IntWalk.u8_in], by simp (disch := omega) only [go_sem, ↓IntWalk.iteOmega, IntWalk.toNatUp, Nat.reduceEqDiff, Nat.reduceAdd, Nat.reduceMul, Nat.reduceSub, Nat.reduceLT, Nat.reduceLeDiff, Int.reduceToNat, Int.reduceLT, Int.reduceLE, Int.reduceEq, Int.reduceAdd, Int.reduceSub, Int.reduceMul, Int.toNat_natCast, reduceCtorEq, decide_true, decide_false, IntWalk.i64_in, IntWalk.u64_in, IntWalk.u8_in], by simp (disch := omega) only [go_sem, ↓IntWalk.iteOmega, IntWalk.toNatUp, Nat.reduceEqDiff, Nat.reduceAdd, Nat.reduceMul, Nat.reduceSub, Nat.reduceLT, Nat.reduceLeDiff, Int.reduceToNat, Int.reduceLT, Int.reduceLE, Int.reduceEq, Int.reduceAdd, Int.reduceSub, Int.reduceMul, Int.toNat_natCast, reduceCtorEq, decide_true, decide_false, IntWalk.i64_in, IntWalk.u64_in, IntWalk.u8_in], rfl, by show (0 : Nat) ≤ 30; omega⟩, .nil 3, by omega, by omega, ⟨.inl ⟨rfl, rfl⟩, .inl ⟨rfl, rfl⟩⟩, by omega, by simp, by simp, by omega, by omega⟩
theorem parse_ok (s : List UInt8) : Ok Tryd.prog 18 [.str s] (.tup [nodeV (parseN s).1, .int .i64 (parseN s).2.1, .int .i64 (parseN s).2.2]) := by
  refine ok_of_WP (E := EX md0 XPz) XPz_ok crP_ok mixed (k := 300) Tryd.func18 (lookP _) rfl ?_
  show WP _ _ _ _ bP _ _ _ _
  rw [bP_seq]
  simp only [x0, bP, pathC, Tryd.f18, Option.getD_some]
  simp (disch := omega) only [go_sem, ↓IntWalk.iteOmega, IntWalk.toNatUp, Nat.reduceEqDiff, Nat.reduceAdd, Nat.reduceMul, Nat.reduceSub, Nat.reduceLT, Nat.reduceLeDiff, Int.reduceToNat, Int.reduceLT, Int.reduceLE, Int.reduceEq, Int.reduceAdd, Int.reduceSub, Int.reduceMul, Int.toNat_natCast, reduceCtorEq, decide_true, decide_false, IntWalk.i64_in, IntWalk.u64_in, IntWalk.u8_in, nzP]
  have hret : ∀ (a : AAct) (o : Ob) (nx : Nat), RetOK (parseN s) a o → (Out.ret = Out.normal ∨ Out.ret = Out.ret) ∧ wO (consO (aLoad Tryd.prog 29 (a 2) { o := o, nx := nx }) (some [a 3, a 4])) fun vs => A.view o 1012 (tup1 vs) = .tup [nodeV (parseN s).1, .int .i64 (parseN s).2.1, .int .i64 (parseN s).2.2] := by
    rintro a o nx ⟨b2, ⟨cs, b3, b4, b5⟩, b6, b7⟩
    refine ⟨.inr rfl, ?_⟩
    have htk : cs.take 5 = cs := take_len b4
    have hv := b5 o 1010
    simp (disch := omega) only [go_sem, ↓IntWalk.iteOmega, IntWalk.toNatUp, Nat.reduceEqDiff, Nat.reduceAdd, Nat.reduceMul, Nat.reduceSub, Nat.reduceLT, Nat.reduceLeDiff, Int.reduceToNat, Int.reduceLT, Int.reduceLE, Int.reduceEq, Int.reduceAdd, Int.reduceSub, Int.reduceMul, Int.toNat_natCast, reduceCtorEq, decide_true, decide_false, IntWalk.i64_in, IntWalk.u64_in, IntWalk.u8_in, b2, b3, b6, b7, b4, htk, hv]
  by_cases hs : 200 < s.length
  · have hp : parseN s = (zeroN, 0, 4) := if_pos hs
    refine WP_scope (fun _ _ _ _ _ => False) 0 (by omega) ?_ (fun l m a o nx rest hf hI => hI.elim)
    exact parse_large hs (by simp (disch := omega) only [go_sem, ↓IntWalk.iteOmega, IntWalk.toNatUp, Nat.reduceEqDiff, Nat.reduceAdd, Nat.reduceMul, Nat.reduceSub, Nat.reduceLT, Nat.reduceLeDiff, Int.reduceToNat, Int.reduceLT, Int.reduceLE, Int.reduceEq, Int.reduceAdd, Int.reduceSub, Int.reduceMul, Int.toNat_natCast, reduceCtorEq, decide_true, decide_false, IntWalk.i64_in, IntWalk.u64_in, IntWalk.u8_in]) (by simp (disch := omega) only [go_sem, ↓IntWalk.iteOmega, IntWalk.toNatUp, Nat.reduceEqDiff, Nat.reduceAdd, Nat.reduceMul, Nat.reduceSub, Nat.reduceLT, Nat.reduceLeDiff, Int.reduceToNat, Int.reduceLT, Int.reduceLE, Int.reduceEq, Int.reduceAdd, Int.reduceSub, Int.reduceMul, Int.toNat_natCast, reduceCtorEq, decide_true, decide_false, IntWalk.i64_in, IntWalk.u64_in, IntWalk.u8_in]) (by simp (disch := omega) only [go_sem, ↓IntWalk.iteOmega, IntWalk.toNatUp, Nat.reduceEqDiff, Nat.reduceAdd, Nat.reduceMul, Nat.reduceSub, Nat.reduceLT, Nat.reduceLeDiff, Int.reduceToNat, Int.reduceLT, Int.reduceLE, Int.reduceEq, Int.reduceAdd, Int.reduceSub, Int.reduceMul, Int.toNat_natCast, reduceCtorEq, decide_true, decide_false, IntWalk.i64_in, IntWalk.u64_in, IntWalk.u8_in]) (fun a o nx h => hret a o nx (by rw [hp]; exact h))
  · have hs' : s.length ≤ 200 := by omega
    have hp : pGo s (s.length + 1) 0 [] [] [] = parseN s := (if_neg hs).symm
    refine WP_scope (PI s (parseN s)) (s.length + 1 + 2) (by omega) ?_ (fun l m a o nx rest hf hI => parse_step hs' hf hI hret)
    refine parse_start hs' (by simp (disch := omega) only [go_sem, ↓IntWalk.iteOmega, IntWalk.toNatUp, Nat.reduceEqDiff, Nat.reduceAdd, Nat.reduceMul, Nat.reduceSub, Nat.reduceLT, Nat.reduceLeDiff, Int.reduceToNat, Int.reduceLT, Int.reduceLE, Int.reduceEq, Int.reduceAdd, Int.reduceSub, Int.reduceMul, Int.toNat_natCast, reduceCtorEq, decide_true, decide_false, IntWalk.i64_in, IntWalk.u64_in, IntWalk.u8_in]) (by simp (disch := omega) only [go_sem, ↓IntWalk.iteOmega, IntWalk.toNatUp, Nat.reduceEqDiff, Nat.reduceAdd, Nat.reduceMul, Nat.reduceSub, Nat.reduceLT, Nat.reduceLeDiff, Int.reduceToNat, Int.reduceLT, Int.reduceLE, Int.reduceEq, Int.reduceAdd, Int.reduceSub, Int.reduceMul, Int.toNat_natCast, reduceCtorEq, decide_true, decide_false, IntWalk.i64_in, IntWalk.u64_in, IntWalk.u8_in]) (by simp (disch := omega) only [go_sem, ↓IntWalk.iteOmega, IntWalk.toNatUp, Nat.reduceEqDiff, Nat.reduceAdd, Nat.reduceMul, Nat.reduceSub, Nat.reduceLT, Nat.reduceLeDiff, Int.reduceToNat, Int.reduceLT, Int.reduceLE, Int.reduceEq, Int.reduceAdd, Int.reduceSub, Int.reduceMul, Int.toNat_natCast, reduceCtorEq, decide_true, decide_false, IntWalk.i64_in, IntWalk.u64_in, IntWalk.u8_in]) (fun a o nx h => ?_)
    exact lab1 hs' h (by omega) (by omega) hp (fun a o nx m' h1 h2 => by rw [scopeQ_goto fl1]; exact ⟨m', h1, h2⟩) (fun a o nx m' h1 h2 => by rw [scopeQ_goto fl0]; exact ⟨m', h1, h2⟩) (fun a o nx m' h1 h2 => by rw [scopeQ_goto fl2]; exact ⟨m', h1, h2⟩) hret
end Go.Proofs.YtmcbfbpdfbcakaaDoor.A
/- Long expressions: what Parse tells of them. -/
namespace Go.Proofs.YtmcbfbpdfbcakaaDoor.A
open Go
set_option maxRecDepth 20000
def RParse (args : List AV) (r : AV) : Prop := ∃ s, args = [.str s] ∧ r = .tup [nodeV (parseN s).1, .int .i64 (parseN s).2.1, .int .i64 (parseN s).2.2]
theorem RParse_ok (args r) (h : RParse args r) : Ok Tryd.prog 18 args r := by
  obtain ⟨s, rfl, rfl⟩ := h
  exact parse_ok s
theorem RParse_fn : Fun1 RParse := by
  rintro args r r' ⟨s, rfl, rfl⟩ ⟨s', h, rfl⟩
  simp only [List.cons.injEq, AV.str.injEq, and_true] at h
  rw [h]
/-- The table of contracts: known, Parse of whatever text, within. -/
noncomputable def XLP : FuncId → List AV → Option AV := tabLook [(13, tRel RKn4), (18, tRel RParse), (17, tRel RW)]
theorem XLP_ok : CPSound Tryd.prog XLP := tab_cons (tab_cons (tab_cons (tab_nil _) (tRel_ok within2_ok)) (tRel_ok RParse_ok)) (tRel_ok RKn4_ok)
theorem XLP_known : XLP 13 [] = some (.bool true) := tRel_eq (R := RKn4) RKn4_fn ⟨rfl, rfl⟩
theorem XLP_within (a n : Int) (h1 : 0 < n) (h2 : n ≤ 1000000) : XLP 17 [.int .i64 a, .int .i64 n] = some (.int .i64 (a % n)) := rw_eq h1 h2
theorem XLP_parse (s : List UInt8) : XLP 18 [.str s] = some (.tup [nodeV (parseN s).1, .int .i64 (parseN s).2.1, .int .i64 (parseN s).2.2]) := tRel_eq RParse_fn ⟨s, rfl, rfl⟩
def lenN : Nd → Nat
  | .mk _ _ _ _ l => l.length
def longS (k : Nat) (bad : Bool) : List UInt8 := if bad then List.replicate (k - 1) 119 ++ [120] else List.replicate k 119
def longE (k : Nat) (bad : Bool) : Int × Int := if 200 < k then (0, 4) else if bad then ((k : Int) - 1, 3) else (0, 0)
def longC (k : Nat) (bad : Bool) : Bool := decide ((parseN (longS k bad)).2 = longE k bad) && (decide (200 < k) || bad || (decide (kindN (parseN (longS k bad)).1 = 4) && decide (lenN (parseN (longS k bad)).1 = k)))
theorem long_all : (List.range 20).all (fun q => longC (190 + q) true && longC (190 + q) false) = true := by decide +kernel
theorem long_at {k : Nat} (h1 : 190 ≤ k) (h2 : k < 210) (bad : Bool) : longC k bad = true := by
  have h := List.all_eq_true.1 long_all (k - 190) (List.mem_range.2 (by omega))
  rw [Bool.and_eq_true] at h
  have e : 190 + (k - 190) = k := by omega
  rw [e] at h
  cases bad with
  | true => exact h.1
  | false => exact h.2
end Go.Proofs.YtmcbfbpdfbcakaaDoor.A
/- Sets: their texts, what Parse tells of them. -/
namespace Go.Proofs.YtmcbfbpdfbcakaaDoor.A
open Go
set_option maxRecDepth 20000
def signB (k : Nat) : UInt8 := signs5.getD k 0
/-- A set's text. -/
def setS (s : Nat) : List UInt8 :=
  let l := ((List.range 5).filter fun i => s / 2 ^ i % 2 = 1).map signB
  if s = 31 then [46] else if l.length = 1 then l else 91 :: l ++ [93]
noncomputable def XLS : FuncId → List AV → Option AV := tabLook [(13, tRel RKn4), (18, tRel RParse), (25, (calls E4 1000).1 25), (26, (calls E4 1000).1 26), (17, tRel RW)]
theorem XLS_ok : CPSound Tryd.prog XLS := tab_cons (tab_cons (tab_cons (tab_cons (tab_cons (tab_nil _) (tRel_ok within2_ok)) (fun args r h => ok_calls (E := E4) ext4_ok mixed h)) (fun args r h => ok_calls (E := E4) ext4_ok mixed h)) (tRel_ok RParse_ok)) (tRel_ok RKn4_ok)
theorem XLS_known : XLS 13 [] = some (.bool true) := tRel_eq (R := RKn4) RKn4_fn ⟨rfl, rfl⟩
theorem XLS_within (a n : Int) (h1 : 0 < n) (h2 : n ≤ 1000000) : XLS 17 [.int .i64 a, .int .i64 n] = some (.int .i64 (a % n)) := rw_eq h1 h2
theorem XLS_parse (s : List UInt8) : XLS 18 [.str s] = some (.tup [nodeV (parseN s).1, .int .i64 (parseN s).2.1, .int .i64 (parseN s).2.2]) := tRel_eq RParse_fn ⟨s, rfl, rfl⟩
abbrev setV (s : Int) : AV := .agg [.int .i64 1, .int .i64 s, .int .i64 0, .int .i64 0, .sl 0 []]
theorem text_all : ((List.range 31).map fun q => XLS 25 [setV ((q + 1 : Nat) : Int)]) = (List.range 31).map fun q => some (.str (setS (q + 1))) := by kernel_rfl
theorem size_all : ((List.range 31).map fun q => XLS 26 [setV ((q + 1 : Nat) : Int)]) = (List.range 31).map fun _ => some (.int .i64 1) := by kernel_rfl
theorem parse_all : ((List.range 31).map fun q => parseN (setS (q + 1))) = (List.range 31).map fun q => (.mk 1 ((q + 1 : Nat) : Int) 0 0 [], 0, 0) := by kernel_rfl
theorem map_at {α : Type} {f g : Nat → α} {n : Nat} (h : (List.range n).map f = (List.range n).map g) {q : Nat} (hq : q < n) : f q = g q := List.map_inj_left.1 h q (List.mem_range.2 hq)
theorem text_at {s : Nat} (h0 : 1 ≤ s) (h1 : s ≤ 31) : XLS 25 [setV (s : Int)] = some (.str (setS s)) := by
  have := map_at text_all (q := s - 1) (by omega)
  rwa [show s - 1 + 1 = s by omega] at this
theorem size_at {s : Nat} (h0 : 1 ≤ s) (h1 : s ≤ 31) : XLS 26 [setV (s : Int)] = some (.int .i64 1) := by
  have := map_at size_all (q := s - 1) (by omega)
  rwa [show s - 1 + 1 = s by omega] at this
theorem parse_at {s : Nat} (h0 : 1 ≤ s) (h1 : s ≤ 31) : parseN (setS s) = (.mk 1 (s : Int) 0 0 [], 0, 0) := by
  have := map_at parse_all (q := s - 1) (by omega)
  rwa [show s - 1 + 1 = s by omega] at this
/-! ### a class of signs -/
def orK (x : Int) (k : Nat) : Int := orN x k
def sumK (ks : List Nat) : Int := ks.foldl orK 0
theorem orN_pos {x i : Int} (h0 : 0 ≤ x) (h1 : x ≤ 31) (h2 : 0 ≤ i) (h3 : i ≤ 4) : 0 < orN x i := by
  have key : ∀ (a : Fin 32) (b : Fin 5), 0 < orN (a.1 : Int) (b.1 : Int) := by decide +kernel
  have := key ⟨x.toNat, by omega⟩ ⟨i.toNat, by omega⟩
  simp only [Int.toNat_of_nonneg h0, Int.toNat_of_nonneg h2] at this
  exact this
theorem fold_in : ∀ (ks : List Nat) (x : Int), (∀ k ∈ ks, k < 5) → 0 ≤ x → x ≤ 31 → 0 ≤ ks.foldl orK x ∧ ks.foldl orK x ≤ 31 ∧ (0 < x ∨ ks ≠ [] → 0 < ks.foldl orK x)
  | [], x, _, h0, h1 => ⟨h0, h1, fun h => h.elim id (fun e => absurd rfl e)⟩
  | k :: ks, x, hk, h0, h1 => by
    have hk5 := hk k (List.mem_cons_self ..)
    have h2 := orN_in h0 h1 (Int.natCast_nonneg k) (by omega)
    have h3 := orN_pos h0 h1 (Int.natCast_nonneg k) (by omega)
    have := fold_in ks (orN x k) (fun k' h => hk k' (List.mem_cons_of_mem _ h)) h2.1 h2.2
    exact ⟨this.1, this.2.1, fun _ => this.2.2 (.inl h3)⟩
theorem sign_signB {k : Nat} (h : k < 5) : signN ((signB k).toNat : Int) = k := by
  have : ∀ k : Fin 5, signN ((signB k.1).toNat : Int) = k.1 := by decide +kernel
  exact this ⟨k, h⟩
theorem byteN_app (p : List UInt8) (c : UInt8) (r : List UInt8) : byteN (p ++ c :: r) p.length = c.toNat := by
  rw [byteN, Int.toNat_natCast, List.getD_eq_getElem?_getD, List.getElem?_append_right (Nat.le_refl _), Nat.sub_self]
  rfl
theorem class_run : ∀ (ks : List Nat) (p : List UInt8) (out : Int), (∀ k ∈ ks, k < 5) → classF (p ++ ks.map signB ++ [93]) (ks.length + 1) p.length out = (ks.foldl orK out, decide (0 < ks.foldl orK out), (p.length : Int) + ks.length)
  | [], p, out, _ => by
    have e : p ++ List.map signB [] ++ [93] = p ++ 93 :: [] := by simp
    rw [e, List.length_nil, classF, byteN_app]
    have h1 : signN (((93 : UInt8).toNat : Nat) : Int) < 0 := by decide
    rw [if_pos h1]
    simp
    congr
  | k :: ks, p, out, hk => by
    have hk5 := hk k (List.mem_cons_self ..)
    have e : p ++ List.map signB (k :: ks) ++ [93] = p ++ signB k :: (ks.map signB ++ [93]) := by simp
    rw [e, List.length_cons, classF, byteN_app, sign_signB hk5, if_neg (by omega)]
    have ih := class_run ks (p ++ [signB k]) (orN out k) (fun k' h => hk k' (List.mem_cons_of_mem _ h))
    have e2 : p ++ signB k :: (ks.map signB ++ [93]) = p ++ [signB k] ++ ks.map signB ++ [93] := by simp
    have e3 : (p.length : Int) + 1 = ((p ++ [signB k]).length : Nat) := by rw [List.length_append]; rfl
    rw [e2, e3, ih, List.length_append, List.length_singleton]
    have e4 : orK out k = orN out k := rfl
    rw [List.foldl_cons, e4]
    simp only [Prod.mk.injEq, true_and]
    omega
def clsS (ks : List Nat) : List UInt8 := 91 :: ks.map signB
theorem parse_cls (ks : List Nat) (hk : ∀ k ∈ ks, k < 5) (hl : ks.length ≤ 20) : (ks = [] → (parseN (clsS ks ++ [93])).2.2 = 3) ∧ (ks ≠ [] → parseN (clsS ks ++ [93]) = (.mk 1 (sumK ks) 0 0 [], 0, 0)) := by
  have hlen : (clsS ks ++ [93]).length = ks.length + 2 := by rw [List.length_append, clsS, List.length_cons, List.length_map]; rfl
  have hrun := class_run ks [91] 0 hk
  have hb : byteN (clsS ks ++ [93]) 0 = 91 := rfl
  have hf := fold_in ks 0 hk (by omega) (by omega)
  have e0 : [91] ++ ks.map signB ++ [93] = clsS ks ++ [93] := rfl
  rw [e0] at hrun
  rw [parseN, if_neg (by omega), hlen, pGo, hlen, if_neg (by omega), hb, if_neg (by decide), if_pos rfl]
  have e1 : ks.length + 2 - ((0 : Int) + 1).toNat = ks.length + 1 := by show ks.length + 2 - 1 = _; omega
  have e2 : (0 : Int) + 1 = (([91] : List UInt8).length : Nat) := rfl
  rw [e1, e2, hrun]
  constructor
  · rintro rfl
    rfl
  · intro hne
    have hpos := hf.2.2 (.inr hne)
    simp only [hpos, decide_true]
    rw [if_neg (by decide), pGo, hlen, if_pos (by show _ ≤ (([91] : List UInt8).length : Int) + ks.length + 1; show _ ≤ (1 : Int) + _ + 1; omega), if_neg (by simp)]
    rfl
end Go.Proofs.YtmcbfbpdfbcakaaDoor.A
namespace Go.Proofs.YtmcbfbpdfbcakaaDoor.A
open Go
set_option maxRecDepth 20000
theorem lookSets (X) : lookedAt (EX md0 X) (fun _ => none) 2 Tryd.f12 = true := by kernel_rfl
def kN (x : Int) : Nat := (x % 5).toNat
theorem kN_lt (x : Int) : kN x < 5 := by unfold kN; omega
theorem kN_int (x : Int) : ((kN x : Nat) : Int) = x % 5 := by unfold kN; omega
theorem cls_snoc (ks : List Nat) (k : Nat) : clsS (ks ++ [k]) = clsS ks ++ [signB k] := by simp [clsS]
theorem sum_snoc (ks : List Nat) (k : Nat) : sumK (ks ++ [k]) = orN (sumK ks) k := by simp [sumK, orK]
theorem sign_take {k : Nat} (h : k < 5) : List.drop k (119 :: List.take k [98, 99, 102, 116]) = [signB k] := by
  have : ∀ k : Fin 5, List.drop k.1 (119 :: List.take k.1 [98, 99, 102, 116]) = [signB k.1] := by decide
  exact this ⟨k, h⟩
theorem sets_wp (X : FuncId → List AV → Option AV) (n : Int) (ns : List Int) (hkn : X 13 [] = some (.bool true)) (hwi : ∀ a m : Int, 0 < m → m ≤ 1000000 → X 17 [.int .i64 a, .int .i64 m] = some (.int .i64 (a % m)))
    (hp : ∀ s, X 18 [.str s] = some (.tup [nodeV (parseN s).1, .int .i64 (parseN s).2.1, .int .i64 (parseN s).2.2]))
    (ht : ∀ s : Nat, 1 ≤ s → s ≤ 31 → X 25 [setV (s : Int)] = some (.str (setS s))) (hz : ∀ s : Nat, 1 ≤ s → s ≤ 31 → X 26 [setV (s : Int)] = some (.int .i64 1)) :
    WP (EX md0 X) noR 300 (fun _ => none) (Tryd.f12.body.getD .skip) (begin_ [.int .i64 n, slI ns]) (fun _ => none) 0 (fun u a o nx => (u = .normal ∨ u = .ret) ∧ view o vDepth (a 4) = .bool true) := by
  have h0 := Int.emod_nonneg n (show (31 : Int) ≠ 0 by decide)
  have h1 := Int.emod_lt_of_pos n (show (0 : Int) < 31 by decide)
  have hw31 := hwi n 31 (by omega) (by omega)
  generalize n % 31 = q at *
  obtain ⟨S, hS⟩ : ∃ S : Nat, (1 : Int) + q = S := ⟨(1 + q).toNat, by omega⟩
  have hts := ht S (by omega) (by omega)
  have hps := hp (setS S)
  rw [parse_at (by omega) (by omega)] at hps
  simp only [nodeV, cNd_mk, slN, cNds_nil, List.length_nil] at hps
  simp only [Tryd.f12, Option.getD_some]
  simp (disch := omega) only [go_sem, ↓IntWalk.iteOmega, IntWalk.toNatUp, Nat.reduceEqDiff, Nat.reduceAdd, Nat.reduceMul, Nat.reduceSub, Nat.reduceLT, Nat.reduceLeDiff, Int.reduceToNat, Int.reduceLT, Int.reduceLE, Int.reduceEq, Int.reduceAdd, Int.reduceSub, Int.reduceMul, Int.toNat_natCast, reduceCtorEq, decide_true, decide_false, IntWalk.i64_in, IntWalk.u64_in, IntWalk.u8_in, hkn, hw31, hS, hts, hps]
  refine WP_loop (fun m a o nx => ∃ i : Nat, i ≤ ns.length ∧ i ≤ 20 ∧ m = 20 - i ∧ a 1 = slI ns ∧ a 10 = .str (clsS ((ns.take i).map kN)) ∧ a 11 = .int .i64 (sumK ((ns.take i).map kN)) ∧ a 12 = .int .i64 i) 20 (by omega) ⟨0, by omega, by omega, by omega, by simp (disch := omega) only [go_sem, ↓IntWalk.iteOmega, IntWalk.toNatUp, Nat.reduceEqDiff, Nat.reduceAdd, Nat.reduceMul, Nat.reduceSub, Nat.reduceLT, Nat.reduceLeDiff, Int.reduceToNat, Int.reduceLT, Int.reduceLE, Int.reduceEq, Int.reduceAdd, Int.reduceSub, Int.reduceMul, Int.toNat_natCast, reduceCtorEq, decide_true, decide_false, IntWalk.i64_in, IntWalk.u64_in, IntWalk.u8_in], by simp (disch := omega) only [go_sem, ↓IntWalk.iteOmega, IntWalk.toNatUp, Nat.reduceEqDiff, Nat.reduceAdd, Nat.reduceMul, Nat.reduceSub, Nat.reduceLT, Nat.reduceLeDiff, Int.reduceToNat, Int.reduceLT, Int.reduceLE, Int.reduceEq, Int.reduceAdd, Int.reduceSub, Int.reduceMul, Int.toNat_natCast, reduceCtorEq, decide_true, decide_false, IntWalk.i64_in, IntWalk.u64_in, IntWalk.u8_in]; rfl, by simp (disch := omega) only [go_sem, ↓IntWalk.iteOmega, IntWalk.toNatUp, Nat.reduceEqDiff, Nat.reduceAdd, Nat.reduceMul, Nat.reduceSub, Nat.reduceLT, Nat.reduceLeDiff, Int.reduceToNat, Int.reduceLT, Int.reduceLE, Int.reduceEq, Int.reduceAdd, Int.reduceSub, Int.reduceMul, Int.toNat_natCast, reduceCtorEq, decide_true, decide_false, IntWalk.i64_in, IntWalk.u64_in, IntWalk.u8_in]; rfl, by simp (disch := omega) only [go_sem, ↓IntWalk.iteOmega, IntWalk.toNatUp, Nat.reduceEqDiff, Nat.reduceAdd, Nat.reduceMul, Nat.reduceSub, Nat.reduceLT, Nat.reduceLeDiff, Int.reduceToNat, Int.reduceLT, Int.reduceLE, Int.reduceEq, Int.reduceAdd, Int.reduceSub, Int.reduceMul, Int.toNat_natCast, reduceCtorEq, decide_true, decide_false, IntWalk.i64_in, IntWalk.u64_in, IntWalk.u8_in]⟩ ?_
  rintro m a o nx ⟨i, hi, hi2, rfl, a1, a10, a11, a12⟩
  have hks : ∀ (l : List Int) k, k ∈ l.map kN → k < 5 := fun l k hk => by
    obtain ⟨x, _, rfl⟩ := List.mem_map.1 hk
    exact kN_lt x
  have hlk : ((ns.take i).map kN).length = i := by rw [List.length_map, List.length_take]; omega
  by_cases hlt : i < ns.length ∧ i < 20
  · obtain ⟨hlt, hlt2⟩ := hlt
    have hsn : (ns.take (i + 1)).map kN = (ns.take i).map kN ++ [kN (ns.getD i 0)] := by
      rw [List.take_add_one, List.map_append, List.getElem?_eq_getElem hlt, List.getD_eq_getElem?_getD, List.getElem?_eq_getElem hlt]
      rfl
    have hk := kN_int (ns.getD i 0)
    have hkl := kN_lt (ns.getD i 0)
    have hw5 := hwi (ns.getD i 0) 5 (by omega) (by omega)
    rw [← hk] at hw5
    have hat := cI_get (s := 1) hlt
    generalize ns.getD i 0 = y at *
    have hst := sign_take hkl
    have hu : IntKind.u64.wrap ((kN y : Nat) : Int) = (kN y : Nat) := IntWalk.u64_in _ (by omega)
    have hcl : (clsS ((ns.take i).map kN)).length = i + 1 := by rw [clsS, List.length_cons, List.length_map, hlk]
    simp (disch := omega) only [go_sem, ↓IntWalk.iteOmega, IntWalk.toNatUp, Nat.reduceEqDiff, Nat.reduceAdd, Nat.reduceMul, Nat.reduceSub, Nat.reduceLT, Nat.reduceLeDiff, Int.reduceToNat, Int.reduceLT, Int.reduceLE, Int.reduceEq, Int.reduceAdd, Int.reduceSub, Int.reduceMul, Int.toNat_natCast, reduceCtorEq, decide_true, decide_false, IntWalk.i64_in, IntWalk.u64_in, IntWalk.u8_in, a1, a10, a11, a12, hat, hw5, hst, hu, hcl]
    exact ⟨_, by omega, i + 1, by omega, by omega, rfl, by rw [hsn, cls_snoc], by rw [hsn, sum_snoc]; rfl, rfl⟩
  · have hend : ∀ (u : Nat) (t : List UInt8), clsS ((ns.take i).map kN) ++ [93] = t → True := fun _ _ _ => trivial
    have hcl : (clsS ((ns.take i).map kN)).length = i + 1 := by rw [clsS, List.length_cons, List.length_map, hlk]
    have hpc := parse_cls _ (hks (ns.take i)) (by omega)
    have hfi := fold_in _ 0 (hks (ns.take i)) (by omega) (by omega)
    generalize (ns.take i).map kN = ks at *
    have hps2 := hp (clsS ks ++ [93])
    have hfi : 0 ≤ sumK ks ∧ sumK ks ≤ 31 ∧ (0 < (0 : Int) ∨ ks ≠ [] → 0 < sumK ks) := hfi
    by_cases hke : ks = []
    · have h3 := hpc.1 hke
      have hs0 : sumK ks = 0 := by rw [hke]; rfl
      generalize parseN (clsS ks ++ [93]) = r at *
      obtain ⟨N, at_, er⟩ := r
      simp only at h3 hps2
      subst h3
      by_cases h20 : i < ns.length
      · simp (disch := omega) only [go_sem, ↓IntWalk.iteOmega, IntWalk.toNatUp, Nat.reduceEqDiff, Nat.reduceAdd, Nat.reduceMul, Nat.reduceSub, Nat.reduceLT, Nat.reduceLeDiff, Int.reduceToNat, Int.reduceLT, Int.reduceLE, Int.reduceEq, Int.reduceAdd, Int.reduceSub, Int.reduceMul, Int.toNat_natCast, reduceCtorEq, decide_true, decide_false, IntWalk.i64_in, IntWalk.u64_in, IntWalk.u8_in, a1, a10, a11, a12, hcl, hps2, hs0]
      · simp (disch := omega) only [go_sem, ↓IntWalk.iteOmega, IntWalk.toNatUp, Nat.reduceEqDiff, Nat.reduceAdd, Nat.reduceMul, Nat.reduceSub, Nat.reduceLT, Nat.reduceLeDiff, Int.reduceToNat, Int.reduceLT, Int.reduceLE, Int.reduceEq, Int.reduceAdd, Int.reduceSub, Int.reduceMul, Int.toNat_natCast, reduceCtorEq, decide_true, decide_false, IntWalk.i64_in, IntWalk.u64_in, IntWalk.u8_in, a1, a10, a11, a12, hcl, hps2, hs0]
    · rw [hpc.2 hke] at hps2
      have hpos := hfi.2.2 (.inr hke)
      obtain ⟨s, hs⟩ : ∃ s : Nat, sumK ks = s := ⟨(sumK ks).toNat, by omega⟩
      rw [hs] at hps2 a11
      have hzs := hz s (by omega) (by omega)
      simp only [nodeV, cNd_mk, slN, cNds_nil, List.length_nil] at hps2
      have hs0 : ¬ (s : Int) = 0 := by omega
      by_cases h20 : i < ns.length
      · simp (disch := omega) only [go_sem, ↓IntWalk.iteOmega, IntWalk.toNatUp, Nat.reduceEqDiff, Nat.reduceAdd, Nat.reduceMul, Nat.reduceSub, Nat.reduceLT, Nat.reduceLeDiff, Int.reduceToNat, Int.reduceLT, Int.reduceLE, Int.reduceEq, Int.reduceAdd, Int.reduceSub, Int.reduceMul, Int.toNat_natCast, reduceCtorEq, decide_true, decide_false, IntWalk.i64_in, IntWalk.u64_in, IntWalk.u8_in, a1, a10, a11, a12, hcl, hps2, hzs, hs0]
      · simp (disch := omega) only [go_sem, ↓IntWalk.iteOmega, IntWalk.toNatUp, Nat.reduceEqDiff, Nat.reduceAdd, Nat.reduceMul, Nat.reduceSub, Nat.reduceLT, Nat.reduceLeDiff, Int.reduceToNat, Int.reduceLT, Int.reduceLE, Int.reduceEq, Int.reduceAdd, Int.reduceSub, Int.reduceMul, Int.toNat_natCast, reduceCtorEq, decide_true, decide_false, IntWalk.i64_in, IntWalk.u64_in, IntWalk.u8_in, a1, a10, a11, a12, hcl, hps2, hzs, hs0]
theorem sets_ok (n : Int) (ns : List Int) : Ok Tryd.prog 12 [.int .i64 n, slI ns] (.bool true) := by
  refine ok_of_WP (E := EX md0 XLS) (cr := noR) XLS_ok (noR_ok _) mixed (k := 300) Tryd.func12 (lookSets _) rfl (WP_mono (sets_wp XLS n ns XLS_known XLS_within XLS_parse (fun s h0 h1 => text_at h0 h1) (fun s h0 h1 => size_at h0 h1)) ?_)
  rintro u a o nx ⟨h, hv⟩
  refine ⟨h, ?_⟩
  simp only [Tryd.f12]
  simp (disch := omega) only [go_sem, ↓IntWalk.iteOmega, IntWalk.toNatUp, Nat.reduceEqDiff, Nat.reduceAdd, Nat.reduceMul, Nat.reduceSub, Nat.reduceLT, Nat.reduceLeDiff, Int.reduceToNat, Int.reduceLT, Int.reduceLE, Int.reduceEq, Int.reduceAdd, Int.reduceSub, Int.reduceMul, Int.toNat_natCast, reduceCtorEq, decide_true, decide_false, IntWalk.i64_in, IntWalk.u64_in, IntWalk.u8_in]
  exact hv
end Go.Proofs.YtmcbfbpdfbcakaaDoor.A

namespace Go.Proofs.YtmcbfbpdfbcakaaDoor
open Go Go.Proofs.YtmcbfbpdfbcakaaDoor.A
set_option maxRecDepth 100000 in
theorem regexSets_lifted (os : Os) (started : os.Started) (H : Type) (enc : TypeId × Value → H) :
    ReturnsInHanded {} Tryd.checked os 12 .any (fun w args => (Rows.regexSetsSpec.pre enc Tryd.prog Tryd.f12 [] false w args ∧ laidMetH Tryd.prog laidL w) ∧ sizedMet enc Tryd.prog Tryd.f12 (OpenSpec.ofChange Rows.regexSetsSpec) false w args) (Rows.regexSetsSpec.post enc Tryd.prog Tryd.f12 false true false false) :=
  law_laid (C := Tryd.checked) (L := laidL) laidL_noh Tryd.own started (by kernel_rfl) Tryd.func12
    (ChangeSpec.witness_at (enc := enc) (C := Tryd.checked) (os := os) (X := fun w _ => laidMetH Tryd.prog laidL w) false (laidWorld os) #[.int .i64 0, .slice none 0 0] 8 rfl (by kernel_rfl) (by kernel_rfl) (by kernel_rfl) (by kernel_rfl) (by kernel_rfl) (laidWorld_met os _))
    Tryd.laidOut (ks := [3, 23]) (by kernel_rfl) (by kernel_rfl) (tb := 4) (by kernel_rfl) (by kernel_rfl) rfl
    (fun ds hds => by
      match ds, hds with
      | [_, _], _ => exact ⟨rfl, rfl, rfl⟩)
    laid_gl (fun xs hxs => by
      rw [show Tryd.f12.params.toList = [3, 23] from rfl] at hxs
      match xs, hxs with
      | [x1, x2], ⟨h1, h2, _⟩ =>
        obtain ⟨n1, rfl, _⟩ := arg_int (k := .i64) (by kernel_rfl) h1
        obtain ⟨n2, rfl, _⟩ := arg_ints (e := 3) (by kernel_rfl) (by kernel_rfl) h2
        exact sets_ok n1 n2)
theorem regexSets_row_holds : Rows.RegexSetsSaid :=
  OpenClaim.holds_of_wide 12 Tryd.f12 rfl rfl rfl rfl rfl rfl rfl ⟨rfl, rfl, rfl, rfl, rfl⟩ rfl rfl rfl rfl rfl (by kernel_rfl) Tryd.func12 (by kernel_rfl)
    (of_decide_eq_true (by kernel_rfl)) (by unfold Func.isWrapper; first | (rw [if_pos (by decide +kernel)]; kernel_rfl) | (rw [if_neg (by decide +kernel)]; exact ⟨rfl, rfl⟩))
    (fun os started H enc _ => regexSets_lifted os started H enc)
theorem regexSets_card_holds : Rows.RegexSetsCardSaid :=
  Claim7.holds_tied_plain_at .later [] [.data, .data, .data] true (true, "252fabc33c00c899ba09f24c312bfa73cda626b39cff52bd3a4e30b2933ed510") false
    regexSets_row_holds (fun _ h => by cases h) (by kernel_rfl) (fun _ h => by cases h) regexSets_row_tie rfl ⟨rfl, rfl⟩ (by kernel_rfl) rfl
    (fun f fn hf hfn => by
      obtain rfl : f = 12 := (Option.some.inj ((show Tryd.prog.funcNamed "milestone/milestonelaw4.RegexSets" = some 12 by kernel_rfl).symm.trans hf)).symm
      obtain rfl : fn = Tryd.f12 := (Option.some.inj (Tryd.func12.symm.trans hfn)).symm
      refine ⟨by kernel_rfl, fun j t ht => ?_⟩
      exact (wants_all (by kernel_rfl : (Tryd.f12.params.toList.all fun t => !Tryd.prog.wantsStandIn t) = true) ht))
    (by kernel_rfl)
end Go.Proofs.YtmcbfbpdfbcakaaDoor
