/- RegexLong answers true for whatever it is called with. -/
import Derived.Test.YtmcbfbpdfbcakaaDoorMLRLong1
import Derived.Test.YtmcbfbpdfbcakaaDoorMLRLong2
import Derived.Test.YtmcbfbpdfbcakaaDoorMLRLong3
import Derived.Test.YtmcbfbpdfbcakaaDoorMLRLong4
import Derived.Test.YtmcbfbpdfbcakaaDoorMLRLong5
import Derived.Test.YtmcbfbpdfbcakaaDoorMLRLong6
set_option linter.unusedVariables false
set_option linter.unusedSimpArgs false
set_option linter.unnecessarySimpa false
/- Expressions read: Parse's contract. -/
namespace Go.Proofs.YtmcbfbpdfbcakaaDoor.A
open Go
set_option maxRecDepth 20000
theorem lab2 {s : List UInt8} {R : Nd × Int × Int} {a : AAct} {o : Ob} {nx : Nat} {at_ U J B g b D pre vU vJ post} (h : PS s a o nx at_ U J B g b D pre vU vJ post) (hR : (zeroN, at_, 3) = R) {Q : WPost} (qr : ∀ a o nx, RetOK R a o → Q .ret a o nx) {k : Nat} :
    WP (EX md0 XPz) crP k nzP r2 a o nx Q := by
  obtain ⟨a0, a2, a5, a6, a7, o2, stk, bel, b3, bn, lv, D1, U1, J1, at0, at1⟩ := h
  have hcell := stk.cell
  have hpar := stk.par
  simp only [r2, bP, pathC, Tryd.f18, Option.getD_some]
  simp (disch := omega) only [go_sem, ↓IntWalk.iteOmega, IntWalk.toNatUp, Nat.reduceEqDiff, Nat.reduceAdd, Nat.reduceMul, Nat.reduceSub, Nat.reduceLT, Nat.reduceLeDiff, Int.reduceToNat, Int.reduceLT, Int.reduceLE, Int.reduceEq, Int.reduceAdd, Int.reduceSub, Int.reduceMul, Int.toNat_natCast, reduceCtorEq, decide_true, decide_false, IntWalk.i64_in, IntWalk.u64_in, IntWalk.u8_in, nzP, a0, a2, a5, a6, a7, o2, hcell, hpar]
  subst hR
  exact qr _ _ _ ⟨by simp (disch := omega) only [go_sem, ↓IntWalk.iteOmega, IntWalk.toNatUp, Nat.reduceEqDiff, Nat.reduceAdd, Nat.reduceMul, Nat.reduceSub, Nat.reduceLT, Nat.reduceLeDiff, Int.reduceToNat, Int.reduceLT, Int.reduceLE, Int.reduceEq, Int.reduceAdd, Int.reduceSub, Int.reduceMul, Int.toNat_natCast, reduceCtorEq, decide_true, decide_false, IntWalk.i64_in, IntWalk.u64_in, IntWalk.u8_in, a2], ⟨nd0, by simp (disch := omega) only [go_sem, ↓IntWalk.iteOmega, IntWalk.toNatUp, Nat.reduceEqDiff, Nat.reduceAdd, Nat.reduceMul, Nat.reduceSub, Nat.reduceLT, Nat.reduceLeDiff, Int.reduceToNat, Int.reduceLT, Int.reduceLE, Int.reduceEq, Int.reduceAdd, Int.reduceSub, Int.reduceMul, Int.toNat_natCast, reduceCtorEq, decide_true, decide_false, IntWalk.i64_in, IntWalk.u64_in, IntWalk.u8_in], rfl, zero_view⟩, by simp (disch := omega) only [go_sem, ↓IntWalk.iteOmega, IntWalk.toNatUp, Nat.reduceEqDiff, Nat.reduceAdd, Nat.reduceMul, Nat.reduceSub, Nat.reduceLT, Nat.reduceLeDiff, Int.reduceToNat, Int.reduceLT, Int.reduceLE, Int.reduceEq, Int.reduceAdd, Int.reduceSub, Int.reduceMul, Int.toNat_natCast, reduceCtorEq, decide_true, decide_false, IntWalk.i64_in, IntWalk.u64_in, IntWalk.u8_in], by simp (disch := omega) only [go_sem, ↓IntWalk.iteOmega, IntWalk.toNatUp, Nat.reduceEqDiff, Nat.reduceAdd, Nat.reduceMul, Nat.reduceSub, Nat.reduceLT, Nat.reduceLeDiff, Int.reduceToNat, Int.reduceLT, Int.reduceLE, Int.reduceEq, Int.reduceAdd, Int.reduceSub, Int.reduceMul, Int.toNat_natCast, reduceCtorEq, decide_true, decide_false, IntWalk.i64_in, IntWalk.u64_in, IntWalk.u8_in]⟩
theorem lab0 {s : List UInt8} {R : Nd × Int × Int} {a : AAct} {o : Ob} {nx : Nat} {at_ U J B g b D pre vU vJ post} (h : PS s a o nx at_ U J B g b D pre vU vJ post) (hR : (if B ≠ [] ∨ J = [] then (zeroN, at_, 3) else (manyN 5 (U ++ [manyN 4 J]), 0, 0)) = R) {Q : WPost}
    (q2 : ∀ a o nx, PI s R 2 0 a o nx → Q (.goto 2) a o nx) (qr : ∀ a o nx, RetOK R a o → Q .ret a o nx) {k : Nat} :
    WP (EX md0 XPz) crP k nzP r0 a o nx Q := by
  have hps := h
  obtain ⟨a0, a2, a5, a6, a7, o2, stk, bel, b3, bn, lv, D1, U1, J1, at0, at1⟩ := h
  have hcell := stk.cell
  have hpar := stk.par
  have hlev := stk.lev
  have hpre := stk.len
  have hle := stk.le
  have d0 : ∀ x y : AV, (pre ++ x :: y :: post).drop (B.length * 2) = x :: y :: post := fun x y => drop_p0 hpre
  have d1 : ∀ x y : AV, (pre ++ x :: y :: post).drop (B.length * 2 + 1) = y :: post := fun x y => drop_p1 hpre
  have h6 : ∀ x y : AV, (pre ++ x :: y :: post).length = B.length * 2 + (post.length + 2) := fun x y => by rw [List.length_append, hpre]; rfl
  simp only [r0, bP, pathC, Tryd.f18, Option.getD_some]
  by_cases c1 : B = []
  · have hBl : B.length = 0 := by rw [c1]; rfl
    by_cases c2 : J = []
    · rw [if_pos (.inr c2)] at hR
      have hvJ : vJ = .nil ∨ ∃ i gj, vJ = .ref (i, 11) gj 0 0 := by
        rcases lv.j with ⟨e, _⟩ | ⟨i, gj, cs, _, _, e, _, _⟩
        · exact .inl e
        · exact .inr ⟨i, gj, by rw [e, c2]; rfl⟩
      simp (disch := omega) only [go_sem, ↓IntWalk.iteOmega, IntWalk.toNatUp, Nat.reduceEqDiff, Nat.reduceAdd, Nat.reduceMul, Nat.reduceSub, Nat.reduceLT, Nat.reduceLeDiff, Int.reduceToNat, Int.reduceLT, Int.reduceLE, Int.reduceEq, Int.reduceAdd, Int.reduceSub, Int.reduceMul, Int.toNat_natCast, reduceCtorEq, decide_true, decide_false, IntWalk.i64_in, IntWalk.u64_in, IntWalk.u8_in, nzP, a0, a2, a5, a6, a7, o2, hcell, hpar, hlev, crP_top]
      refine top_call (stk.keep (by omega) rfl rfl rfl) ?_
      rcases hvJ with rfl | ⟨i, gj, rfl⟩
      · simp (disch := omega) only [go_sem, ↓IntWalk.iteOmega, IntWalk.toNatUp, Nat.reduceEqDiff, Nat.reduceAdd, Nat.reduceMul, Nat.reduceSub, Nat.reduceLT, Nat.reduceLeDiff, Int.reduceToNat, Int.reduceLT, Int.reduceLE, Int.reduceEq, Int.reduceAdd, Int.reduceSub, Int.reduceMul, Int.toNat_natCast, reduceCtorEq, decide_true, decide_false, IntWalk.i64_in, IntWalk.u64_in, IntWalk.u8_in, nzP, a0, a2, a5, a6, a7, o2, hcell, hpar, hlev, d0, d1, h6]
        exact q2 _ _ _ ⟨_, _, _, _, _, _, _, _, _, _, _, hps.same (by unfold AOk; simp (disch := omega) only [go_sem, ↓IntWalk.iteOmega, IntWalk.toNatUp, Nat.reduceEqDiff, Nat.reduceAdd, Nat.reduceMul, Nat.reduceSub, Nat.reduceLT, Nat.reduceLeDiff, Int.reduceToNat, Int.reduceLT, Int.reduceLE, Int.reduceEq, Int.reduceAdd, Int.reduceSub, Int.reduceMul, Int.toNat_natCast, reduceCtorEq, decide_true, decide_false, IntWalk.i64_in, IntWalk.u64_in, IntWalk.u8_in, a0, a2, a5, a6, a7]) (by omega), .inr (.inr ⟨rfl, rfl, hR⟩)⟩
      · simp (disch := omega) only [go_sem, ↓IntWalk.iteOmega, IntWalk.toNatUp, Nat.reduceEqDiff, Nat.reduceAdd, Nat.reduceMul, Nat.reduceSub, Nat.reduceLT, Nat.reduceLeDiff, Int.reduceToNat, Int.reduceLT, Int.reduceLE, Int.reduceEq, Int.reduceAdd, Int.reduceSub, Int.reduceMul, Int.toNat_natCast, reduceCtorEq, decide_true, decide_false, IntWalk.i64_in, IntWalk.u64_in, IntWalk.u8_in, nzP, a0, a2, a5, a6, a7, o2, hcell, hpar, hlev, d0, d1, h6]
        exact q2 _ _ _ ⟨_, _, _, _, _, _, _, _, _, _, _, hps.same (by unfold AOk; simp (disch := omega) only [go_sem, ↓IntWalk.iteOmega, IntWalk.toNatUp, Nat.reduceEqDiff, Nat.reduceAdd, Nat.reduceMul, Nat.reduceSub, Nat.reduceLT, Nat.reduceLeDiff, Int.reduceToNat, Int.reduceLT, Int.reduceLE, Int.reduceEq, Int.reduceAdd, Int.reduceSub, Int.reduceMul, Int.toNat_natCast, reduceCtorEq, decide_true, decide_false, IntWalk.i64_in, IntWalk.u64_in, IntWalk.u8_in, a0, a2, a5, a6, a7]) (by omega), .inr (.inr ⟨rfl, rfl, hR⟩)⟩
    · rw [if_neg (by simp [c1, c2])] at hR
      have hJl : ¬ J.length = 0 := fun e => c2 (List.length_eq_zero_iff.1 e)
      obtain ⟨i, gj, rfl⟩ : ∃ i gj, vJ = .ref (i, 11) gj 0 J.length := by
        rcases lv.j with ⟨_, e⟩ | ⟨i, gj, cs, _, _, e, _, _⟩
        · exact absurd e c2
        · exact ⟨i, gj, e⟩
      simp (disch := omega) only [go_sem, ↓IntWalk.iteOmega, IntWalk.toNatUp, Nat.reduceEqDiff, Nat.reduceAdd, Nat.reduceMul, Nat.reduceSub, Nat.reduceLT, Nat.reduceLeDiff, Int.reduceToNat, Int.reduceLT, Int.reduceLE, Int.reduceEq, Int.reduceAdd, Int.reduceSub, Int.reduceMul, Int.toNat_natCast, reduceCtorEq, decide_true, decide_false, IntWalk.i64_in, IntWalk.u64_in, IntWalk.u8_in, nzP, a0, a2, a5, a6, a7, o2, hcell, hpar, hlev, crP_top]
      refine top_call (stk.keep (by omega) rfl rfl rfl) ?_
      simp (disch := omega) only [go_sem, ↓IntWalk.iteOmega, IntWalk.toNatUp, Nat.reduceEqDiff, Nat.reduceAdd, Nat.reduceMul, Nat.reduceSub, Nat.reduceLT, Nat.reduceLeDiff, Int.reduceToNat, Int.reduceLT, Int.reduceLE, Int.reduceEq, Int.reduceAdd, Int.reduceSub, Int.reduceMul, Int.toNat_natCast, reduceCtorEq, decide_true, decide_false, IntWalk.i64_in, IntWalk.u64_in, IntWalk.u8_in, nzP, a0, a2, a5, a6, a7, o2, hcell, hpar, hlev, d0, d1, h6, hJl, crP_top]
      refine top_call (stk.keep (by omega) rfl rfl rfl) ?_
      simp (disch := omega) only [go_sem, ↓IntWalk.iteOmega, IntWalk.toNatUp, Nat.reduceEqDiff, Nat.reduceAdd, Nat.reduceMul, Nat.reduceSub, Nat.reduceLT, Nat.reduceLeDiff, Int.reduceToNat, Int.reduceLT, Int.reduceLE, Int.reduceEq, Int.reduceAdd, Int.reduceSub, Int.reduceMul, Int.toNat_natCast, reduceCtorEq, decide_true, decide_false, IntWalk.i64_in, IntWalk.u64_in, IntWalk.u8_in, nzP, a0, a2, a5, a6, a7, o2, hcell, hpar, hlev, d0, d1, h6, hJl, crP_or]
      refine or_call (stk.keep (by omega) rfl rfl rfl) (lv.keep (by omega) (fun _ _ _ _ _ => rfl)) b3 (by omega) (by omega) c2 (by omega) (by omega) (fun o1 nx1 vU1 e1 e2 e3 e4 => ?_)
      have hcell1 := e2.cell
      have hpar1 := e2.par
      have hlev1 := e2.lev
      have o21 := (e4.o2 b3 (by omega)).trans o2
      simp (disch := omega) only [go_sem, ↓IntWalk.iteOmega, IntWalk.toNatUp, Nat.reduceEqDiff, Nat.reduceAdd, Nat.reduceMul, Nat.reduceSub, Nat.reduceLT, Nat.reduceLeDiff, Int.reduceToNat, Int.reduceLT, Int.reduceLE, Int.reduceEq, Int.reduceAdd, Int.reduceSub, Int.reduceMul, Int.toNat_natCast, reduceCtorEq, decide_true, decide_false, IntWalk.i64_in, IntWalk.u64_in, IntWalk.u8_in, nzP, a0, a2, a5, a6, a7, hcell1, hpar1, hlev1, crP_top]
      refine top_call (e2.keep (by omega) rfl rfl rfl) ?_
      have hne : U ++ [manyN 4 J] ≠ [] := by simp
      have hUl : (U ++ [manyN 4 J]).length ≤ 1000 := by rw [List.length_append, List.length_singleton]; omega
      have hv := e3.viewU hne
      have ht := e3.tagsU
      have hX := XPz_many 5 (U ++ [manyN 4 J]) hne hUl
      generalize U ++ [manyN 4 J] = W at *
      have hn : ∀ i k, k ≠ 14 → nin (i, k) (viewTags o1 1012 vU1) = true := fun i k e1 => nin_of (fun hm => e1 (ht _ hm).1)
      simp (disch := omega) only [go_sem, ↓IntWalk.iteOmega, IntWalk.toNatUp, Nat.reduceEqDiff, Nat.reduceAdd, Nat.reduceMul, Nat.reduceSub, Nat.reduceLT, Nat.reduceLeDiff, Int.reduceToNat, Int.reduceLT, Int.reduceLE, Int.reduceEq, Int.reduceAdd, Int.reduceSub, Int.reduceMul, Int.toNat_natCast, reduceCtorEq, decide_true, decide_false, IntWalk.i64_in, IntWalk.u64_in, IntWalk.u8_in, nzP, a0, a2, a5, a6, a7, hcell1, hpar1, hlev1, o21, d0, d1, h6, hv, hX, hn]
      subst hR
      exact qr _ _ _ ⟨by simp (disch := omega) only [go_sem, ↓IntWalk.iteOmega, IntWalk.toNatUp, Nat.reduceEqDiff, Nat.reduceAdd, Nat.reduceMul, Nat.reduceSub, Nat.reduceLT, Nat.reduceLeDiff, Int.reduceToNat, Int.reduceLT, Int.reduceLE, Int.reduceEq, Int.reduceAdd, Int.reduceSub, Int.reduceMul, Int.toNat_natCast, reduceCtorEq, decide_true, decide_false, IntWalk.i64_in, IntWalk.u64_in, IntWalk.u8_in, a2], ⟨cNd (manyN 5 W), by simp (disch := omega) only [go_sem, ↓IntWalk.iteOmega, IntWalk.toNatUp, Nat.reduceEqDiff, Nat.reduceAdd, Nat.reduceMul, Nat.reduceSub, Nat.reduceLT, Nat.reduceLeDiff, Int.reduceToNat, Int.reduceLT, Int.reduceLE, Int.reduceEq, Int.reduceAdd, Int.reduceSub, Int.reduceMul, Int.toNat_natCast, reduceCtorEq, decide_true, decide_false, IntWalk.i64_in, IntWalk.u64_in, IntWalk.u8_in], cNd_length _, fun o' e => view_cNd o' e _⟩, by simp (disch := omega) only [go_sem, ↓IntWalk.iteOmega, IntWalk.toNatUp, Nat.reduceEqDiff, Nat.reduceAdd, Nat.reduceMul, Nat.reduceSub, Nat.reduceLT, Nat.reduceLeDiff, Int.reduceToNat, Int.reduceLT, Int.reduceLE, Int.reduceEq, Int.reduceAdd, Int.reduceSub, Int.reduceMul, Int.toNat_natCast, reduceCtorEq, decide_true, decide_false, IntWalk.i64_in, IntWalk.u64_in, IntWalk.u8_in], by simp (disch := omega) only [go_sem, ↓IntWalk.iteOmega, IntWalk.toNatUp, Nat.reduceEqDiff, Nat.reduceAdd, Nat.reduceMul, Nat.reduceSub, Nat.reduceLT, Nat.reduceLeDiff, Int.reduceToNat, Int.reduceLT, Int.reduceLE, Int.reduceEq, Int.reduceAdd, Int.reduceSub, Int.reduceMul, Int.toNat_natCast, reduceCtorEq, decide_true, decide_false, IntWalk.i64_in, IntWalk.u64_in, IntWalk.u8_in]⟩
  · rw [if_pos (.inl c1)] at hR
    have hBl : ¬ B.length = 0 := fun e => c1 (List.length_eq_zero_iff.1 e)
    simp (disch := omega) only [go_sem, ↓IntWalk.iteOmega, IntWalk.toNatUp, Nat.reduceEqDiff, Nat.reduceAdd, Nat.reduceMul, Nat.reduceSub, Nat.reduceLT, Nat.reduceLeDiff, Int.reduceToNat, Int.reduceLT, Int.reduceLE, Int.reduceEq, Int.reduceAdd, Int.reduceSub, Int.reduceMul, Int.toNat_natCast, reduceCtorEq, decide_true, decide_false, IntWalk.i64_in, IntWalk.u64_in, IntWalk.u8_in, nzP, a0, a2, a5, a6, a7, o2, hcell, hpar, hlev, crP_top]
    exact q2 _ _ _ ⟨_, _, _, _, _, _, _, _, _, _, _, hps.same (by unfold AOk; simp (disch := omega) only [go_sem, ↓IntWalk.iteOmega, IntWalk.toNatUp, Nat.reduceEqDiff, Nat.reduceAdd, Nat.reduceMul, Nat.reduceSub, Nat.reduceLT, Nat.reduceLeDiff, Int.reduceToNat, Int.reduceLT, Int.reduceLE, Int.reduceEq, Int.reduceAdd, Int.reduceSub, Int.reduceMul, Int.toNat_natCast, reduceCtorEq, decide_true, decide_false, IntWalk.i64_in, IntWalk.u64_in, IntWalk.u8_in, a0, a2, a5, a6, a7]) (by omega), .inr (.inr ⟨rfl, rfl, hR⟩)⟩
theorem parse_step {s : List UInt8} {R : Nd × Int × Int} (hs : s.length ≤ 200) {l m : Nat} {a : AAct} {o : Ob} {nx : Nat} {rest : Code} (hf : findLabel xP l = some rest) (hI : PI s R l m a o nx) {k : Nat} {Q : WPost} (qr : ∀ a o nx, RetOK R a o → Q .ret a o nx) : WP (EX md0 XPz) crP k nzP rest a o nx (scopeQ xP (PI s R) m Q) := by
  obtain ⟨at_, U, J, B, g, b, D, pre, vU, vJ, post, hps, hc⟩ := hI
  rcases hc with ⟨rfl, f, rfl, hf1, hf2, hR⟩ | ⟨rfl, rfl, hR⟩ | ⟨rfl, rfl, hR⟩
  · rw [fl1] at hf
    injection hf with hf
    subst hf
    have := lab1 hs hps hf1 hf2 hR (Q := scopeQ xP (PI s R) (f + 2) Q) (k := k) (fun a o nx m' h1 h2 => by rw [scopeQ_goto fl1]; exact ⟨m', h1, h2⟩) (fun a o nx m' h1 h2 => by rw [scopeQ_goto fl0]; exact ⟨m', h1, h2⟩) (fun a o nx m' h1 h2 => by rw [scopeQ_goto fl2]; exact ⟨m', h1, h2⟩) (fun a o nx h => qr a o nx h)
    simp (disch := omega) only [go_sem, ↓IntWalk.iteOmega, IntWalk.toNatUp, Nat.reduceEqDiff, Nat.reduceAdd, Nat.reduceMul, Nat.reduceSub, Nat.reduceLT, Nat.reduceLeDiff, Int.reduceToNat, Int.reduceLT, Int.reduceLE, Int.reduceEq, Int.reduceAdd, Int.reduceSub, Int.reduceMul, Int.toNat_natCast, reduceCtorEq, decide_true, decide_false, IntWalk.i64_in, IntWalk.u64_in, IntWalk.u8_in]
    exact this
  · rw [fl0] at hf
    injection hf with hf
    subst hf
    have := lab0 hps hR (Q := scopeQ xP (PI s R) 1 Q) (k := k) (fun a o nx h2 => by rw [scopeQ_goto fl2]; exact ⟨0, by omega, h2⟩) (fun a o nx h => qr a o nx h)
    simp (disch := omega) only [go_sem, ↓IntWalk.iteOmega, IntWalk.toNatUp, Nat.reduceEqDiff, Nat.reduceAdd, Nat.reduceMul, Nat.reduceSub, Nat.reduceLT, Nat.reduceLeDiff, Int.reduceToNat, Int.reduceLT, Int.reduceLE, Int.reduceEq, Int.reduceAdd, Int.reduceSub, Int.reduceMul, Int.toNat_natCast, reduceCtorEq, decide_true, decide_false, IntWalk.i64_in, IntWalk.u64_in, IntWalk.u8_in]
    exact this
  · rw [fl2] at hf
    injection hf with hf
    subst hf
    have := lab2 hps hR (Q := scopeQ xP (PI s R) 0 Q) (k := k) (fun a o nx h => qr a o nx h)
    simp (disch := omega) only [go_sem, ↓IntWalk.iteOmega, IntWalk.toNatUp, Nat.reduceEqDiff, Nat.reduceAdd, Nat.reduceMul, Nat.reduceSub, Nat.reduceLT, Nat.reduceLeDiff, Int.reduceToNat, Int.reduceLT, Int.reduceLE, Int.reduceEq, Int.reduceAdd, Int.reduceSub, Int.reduceMul, Int.toNat_natCast, reduceCtorEq, decide_true, decide_false, IntWalk.i64_in, IntWalk.u64_in, IntWalk.u8_in]
    exact this
noncomputable def x1 : Code := pathC [1, 0, 0] bP
noncomputable def x3 : Code := pathC [1, 0, 1, 0] bP
noncomputable def x4 : Code := pathC [1, 0, 1, 1, 0] bP
noncomputable def x5 : Code := pathC [1, 0, 1, 1, 1, 0] bP
noncomputable def x0 : Code := pathC [0] bP
theorem xP_seq : xP = .seq x1 (.seq x3 (.seq x4 (.seq x5 (.seq (.label 1) r1)))) := by kernel_rfl
theorem bP_seq : bP = .seq x0 (.scope xP) := by kernel_rfl
theorem parse_large {s : List UInt8} (hs : 200 < s.length) {a : AAct} {o : Ob} {nx : Nat} (a0 : a 0 = .str s) (a2 : a 2 = .ptr (0, 2) (0, 2) 0) (o2 : o (0, 2) = some (.row ⟨29, 1, (0, 2), false, true, nd0⟩)) {Q : WPost} (qr : ∀ a o nx, RetOK (zeroN, 0, 4) a o → Q .ret a o nx) {k : Nat} :
    WP (EX md0 XPz) crP k nzP xP a o nx Q := by
  rw [xP_seq]
  simp only [x1, bP, pathC, Tryd.f18, Option.getD_some]
  simp (disch := omega) only [go_sem, ↓IntWalk.iteOmega, IntWalk.toNatUp, Nat.reduceEqDiff, Nat.reduceAdd, Nat.reduceMul, Nat.reduceSub, Nat.reduceLT, Nat.reduceLeDiff, Int.reduceToNat, Int.reduceLT, Int.reduceLE, Int.reduceEq, Int.reduceAdd, Int.reduceSub, Int.reduceMul, Int.toNat_natCast, reduceCtorEq, decide_true, decide_false, IntWalk.i64_in, IntWalk.u64_in, IntWalk.u8_in, nzP, a0, a2, o2]
  exact qr _ _ _ ⟨by simp (disch := omega) only [go_sem, ↓IntWalk.iteOmega, IntWalk.toNatUp, Nat.reduceEqDiff, Nat.reduceAdd, Nat.reduceMul, Nat.reduceSub, Nat.reduceLT, Nat.reduceLeDiff, Int.reduceToNat, Int.reduceLT, Int.reduceLE, Int.reduceEq, Int.reduceAdd, Int.reduceSub, Int.reduceMul, Int.toNat_natCast, reduceCtorEq, decide_true, decide_false, IntWalk.i64_in, IntWalk.u64_in, IntWalk.u8_in, a2], ⟨nd0, by simp (disch := omega) only [go_sem, ↓IntWalk.iteOmega, IntWalk.toNatUp, Nat.reduceEqDiff, Nat.reduceAdd, Nat.reduceMul, Nat.reduceSub, Nat.reduceLT, Nat.reduceLeDiff, Int.reduceToNat, Int.reduceLT, Int.reduceLE, Int.reduceEq, Int.reduceAdd, Int.reduceSub, Int.reduceMul, Int.toNat_natCast, reduceCtorEq, decide_true, decide_false, IntWalk.i64_in, IntWalk.u64_in, IntWalk.u8_in], rfl, zero_view⟩, by simp (disch := omega) only [go_sem, ↓IntWalk.iteOmega, IntWalk.toNatUp, Nat.reduceEqDiff, Nat.reduceAdd, Nat.reduceMul, Nat.reduceSub, Nat.reduceLT, Nat.reduceLeDiff, Int.reduceToNat, Int.reduceLT, Int.reduceLE, Int.reduceEq, Int.reduceAdd, Int.reduceSub, Int.reduceMul, Int.toNat_natCast, reduceCtorEq, decide_true, decide_false, IntWalk.i64_in, IntWalk.u64_in, IntWalk.u8_in], by simp (disch := omega) only [go_sem, ↓IntWalk.iteOmega, IntWalk.toNatUp, Nat.reduceEqDiff, Nat.reduceAdd, Nat.reduceMul, Nat.reduceSub, Nat.reduceLT, Nat.reduceLeDiff, Int.reduceToNat, Int.reduceLT, Int.reduceLE, Int.reduceEq, Int.reduceAdd, Int.reduceSub, Int.reduceMul, Int.toNat_natCast, reduceCtorEq, decide_true, decide_false, IntWalk.i64_in, IntWalk.u64_in, IntWalk.u8_in]⟩
theorem parse_start {s : List UInt8} (hs : s.length ≤ 200) {a : AAct} {o : Ob} (a0 : a 0 = .str s) (a2 : a 2 = .ptr (0, 2) (0, 2) 0) (o2 : o (0, 2) = some (.row ⟨29, 1, (0, 2), false, true, nd0⟩)) {Q : WPost} {k : Nat}
    (hq : ∀ a o nx, PS s a o nx 0 [] [] [] (2, 21) 3 0 [] .nil .nil [] → WP (EX md0 XPz) crP k nzP r1 a o nx Q) :
    WP (EX md0 XPz) crP k nzP xP a o 1 Q := by
  rw [xP_seq]
  simp only [x1, x3, x4, x5, bP, pathC, Tryd.f18, Option.getD_some]
  simp (disch := omega) only [go_sem, ↓IntWalk.iteOmega, IntWalk.toNatUp, Nat.reduceEqDiff, Nat.reduceAdd, Nat.reduceMul, Nat.reduceSub, Nat.reduceLT, Nat.reduceLeDiff, Int.reduceToNat, Int.reduceLT, Int.reduceLE, Int.reduceEq, Int.reduceAdd, Int.reduceSub, Int.reduceMul, Int.toNat_natCast, reduceCtorEq, decide_true, decide_false, IntWalk.i64_in, IntWalk.u64_in, IntWalk.u8_in, nzP, a0, a2, o2]
  exact hq _ _ _ ⟨by simp (disch := omega) only [go_sem, ↓IntWalk.iteOmega, IntWalk.toNatUp, Nat.reduceEqDiff, Nat.reduceAdd, Nat.reduceMul, Nat.reduceSub, Nat.reduceLT, Nat.reduceLeDiff, Int.reduceToNat, Int.reduceLT, Int.reduceLE, Int.reduceEq, Int.reduceAdd, Int.reduceSub, Int.reduceMul, Int.toNat_natCast, reduceCtorEq, decide_true, decide_false, IntWalk.i64_in, IntWalk.u64_in, IntWalk.u8_in, a0], by simp (disch := omega) only [go_sem, ↓IntWalk.iteOmega, IntWalk.toNatUp, Nat.reduceEqDiff, Nat.reduceAdd, Nat.reduceMul, Nat.reduceSub, Nat.reduceLT, Nat.reduceLeDiff, Int.reduceToNat, Int.reduceLT, Int.reduceLE, Int.reduceEq, Int.reduceAdd, Int.reduceSub, Int.reduceMul, Int.toNat_natCast, reduceCtorEq, decide_true, decide_false, IntWalk.i64_in, IntWalk.u64_in, IntWalk.u8_in, a2], by simp (disch := omega) only [go_sem, ↓IntWalk.iteOmega, IntWalk.toNatUp, Nat.reduceEqDiff, Nat.reduceAdd, Nat.reduceMul, Nat.reduceSub, Nat.reduceLT, Nat.reduceLeDiff, Int.reduceToNat, Int.reduceLT, Int.reduceLE, Int.reduceEq, Int.reduceAdd, Int.reduceSub, Int.reduceMul, Int.toNat_natCast, reduceCtorEq, decide_true, decide_false, IntWalk.i64_in, IntWalk.u64_in, IntWalk.u8_in], by simp (disch := omega) only [go_sem, ↓IntWalk.iteOmega, IntWalk.toNatUp, Nat.reduceEqDiff, Nat.reduceAdd, Nat.reduceMul, Nat.reduceSub, Nat.reduceLT, Nat.reduceLeDiff, Int.reduceToNat, Int.reduceLT, Int.reduceLE, Int.reduceEq, Int.reduceAdd, Int.reduceSub, Int.reduceMul, Int.toNat_natCast, reduceCtorEq, decide_true, decide_false, IntWalk.i64_in, IntWalk.u64_in, IntWalk.u8_in], by simp (disch := omega) only [go_sem, ↓IntWalk.iteOmega, IntWalk.toNatUp, Nat.reduceEqDiff, Nat.reduceAdd, Nat.reduceMul, Nat.reduceSub, Nat.reduceLT, Nat.reduceLeDiff, Int.reduceToNat, Int.reduceLT, Int.reduceLE, Int.reduceEq, Int.reduceAdd, Int.reduceSub, Int.reduceMul, Int.toNat_natCast, reduceCtorEq, decide_true, decide_false, IntWalk.i64_in, IntWalk.u64_in, IntWalk.u8_in], by simp (disch := omega) only [go_sem, ↓IntWalk.iteOmega, IntWalk.toNatUp, Nat.reduceEqDiff, Nat.reduceAdd, Nat.reduceMul, Nat.reduceSub, Nat.reduceLT, Nat.reduceLeDiff, Int.reduceToNat, Int.reduceLT, Int.reduceLE, Int.reduceEq, Int.reduceAdd, Int.reduceSub, Int.reduceMul, Int.toNat_natCast, reduceCtorEq, decide_true, decide_false, IntWalk.i64_in, IntWalk.u64_in, IntWalk.u8_in, o2], ⟨by omega, by simp (disch := omega) only [go_sem, ↓IntWalk.iteOmega, IntWalk.toNatUp, Nat.reduceEqDiff, Nat.reduceAdd, Nat.reduceMul, Nat.reduceSub, Nat.reduceLT, Nat.reduceLeDiff, Int.reduceToNat, Int.reduceLT, Int.reduceLE, Int.reduceEq, Int.reduceAdd, Int.reduceSub, Int.reduceMul, Int.toNat_natCast, reduceCtorEq, decide_true, decide_false, IntWalk.i64_in, IntWalk.u64_in, IntWalk.u8_in], by simp (disch := omega) only [go_sem, ↓IntWalk.iteOmega, IntWalk.toNatUp, Nat.reduceEqDiff, Nat.reduceAdd, Nat.reduceMul, Nat.reduceSub, Nat.reduceLT, Nat.reduceLeDiff, Int.reduceToNat, Int.reduceLT, Int.reduceLE, Int.reduceEq, Int.reduceAdd, Int.reduceSub, Int.reduceMul, Int.toNat_natCast, reduceCtorEq, decide_true, decide_false, IntWalk.i64_in, IntWalk.u64_in, IntWalk.u8_in], by simp (disch := omega) only [go_sem, ↓IntWalk.iteOmega, IntWalk.toNatUp, Nat.reduceEqDiff, Nat.reduceAdd, Nat.reduceMul, Nat.reduceSub, Nat.reduceLT, Nat.reduceLeDiff, Int.reduceToNat, Int.reduceLT, Int.reduceLE, Int.reduceEq, Int.reduceAdd, Int.reduceSub, Int.reduceMul, Int.toNat_natCast, reduceCtorEq, decide_true, decide_false, IntWalk.i64_in, IntWalk.u64_in, IntWalk.u8_in], rfl, by show (0 : Nat) ≤ 30; omega⟩, .nil 3, by omega, by omega, ⟨.inl ⟨rfl, rfl⟩, .inl ⟨rfl, rfl⟩⟩, by omega, by simp, by simp, by omega, by omega⟩
theorem parse_ok (s : List UInt8) : Ok Tryd.prog 18 [.str s] (.tup [nodeV (parseN s).1, .int .i64 (parseN s).2.1, .int .i64 (parseN s).2.2]) := by
  refine ok_of_WP (E := EX md0 XPz) XPz_ok crP_ok mixed (k := 300) Tryd.func18 (lookP _) rfl ?_
  show WP _ _ _ _ bP _ _ _ _
  rw [bP_seq]
  simp only [x0, bP, pathC, Tryd.f18, Option.getD_some]
  simp (disch := omega) only [go_sem, ↓IntWalk.iteOmega, IntWalk.toNatUp, Nat.reduceEqDiff, Nat.reduceAdd, Nat.reduceMul, Nat.reduceSub, Nat.reduceLT, Nat.reduceLeDiff, Int.reduceToNat, Int.reduceLT, Int.reduceLE, Int.reduceEq, Int.reduceAdd, Int.reduceSub, Int.reduceMul, Int.toNat_natCast, reduceCtorEq, decide_true, decide_false, IntWalk.i64_in, IntWalk.u64_in, IntWalk.u8_in, nzP]
  have hret : ∀ (a : AAct) (o : Ob) (nx : Nat), RetOK (parseN s) a o → (Out.ret = Out.normal ∨ Out.ret = Out.ret) ∧ wO (consO (aLoad Tryd.prog 29 (a 2) { o := o, nx := nx }) (some [a 3, a 4])) fun vs => A.view o 1012 (tup1 vs) = .tup [nodeV (parseN s).1, .int .i64 (parseN s).2.1, .int .i64 (parseN s).2.2] := by
    rintro a o nx ⟨b2, ⟨cs, b3, b4, b5⟩, b6, b7⟩
    refine ⟨.inr rfl, ?_⟩
    have htk : cs.take 5 = cs := take_len b4
    have hv := b5 o 1010
    simp (disch := omega) only [go_sem, ↓IntWalk.iteOmega, IntWalk.toNatUp, Nat.reduceEqDiff, Nat.reduceAdd, Nat.reduceMul, Nat.reduceSub, Nat.reduceLT, Nat.reduceLeDiff, Int.reduceToNat, Int.reduceLT, Int.reduceLE, Int.reduceEq, Int.reduceAdd, Int.reduceSub, Int.reduceMul, Int.toNat_natCast, reduceCtorEq, decide_true, decide_false, IntWalk.i64_in, IntWalk.u64_in, IntWalk.u8_in, b2, b3, b6, b7, b4, htk, hv]
  by_cases hs : 200 < s.length
  · have hp : parseN s = (zeroN, 0, 4) := if_pos hs
    refine WP_scope (fun _ _ _ _ _ => False) 0 (by omega) ?_ (fun l m a o nx rest hf hI => hI.elim)
    exact parse_large hs (by simp (disch := omega) only [go_sem, ↓IntWalk.iteOmega, IntWalk.toNatUp, Nat.reduceEqDiff, Nat.reduceAdd, Nat.reduceMul, Nat.reduceSub, Nat.reduceLT, Nat.reduceLeDiff, Int.reduceToNat, Int.reduceLT, Int.reduceLE, Int.reduceEq, Int.reduceAdd, Int.reduceSub, Int.reduceMul, Int.toNat_natCast, reduceCtorEq, decide_true, decide_false, IntWalk.i64_in, IntWalk.u64_in, IntWalk.u8_in]) (by simp (disch := omega) only [go_sem, ↓IntWalk.iteOmega, IntWalk.toNatUp, Nat.reduceEqDiff, Nat.reduceAdd, Nat.reduceMul, Nat.reduceSub, Nat.reduceLT, Nat.reduceLeDiff, Int.reduceToNat, Int.reduceLT, Int.reduceLE, Int.reduceEq, Int.reduceAdd, Int.reduceSub, Int.reduceMul, Int.toNat_natCast, reduceCtorEq, decide_true, decide_false, IntWalk.i64_in, IntWalk.u64_in, IntWalk.u8_in]) (by simp (disch := omega) only [go_sem, ↓IntWalk.iteOmega, IntWalk.toNatUp, Nat.reduceEqDiff, Nat.reduceAdd, Nat.reduceMul, Nat.reduceSub, Nat.reduceLT, Nat.reduceLeDiff, Int.reduceToNat, Int.reduceLT, Int.reduceLE, Int.reduceEq, Int.reduceAdd, Int.reduceSub, Int.reduceMul, Int.toNat_natCast, reduceCtorEq, decide_true, decide_false, IntWalk.i64_in, IntWalk.u64_in, IntWalk.u8_in]) (fun a o nx h => hret a o nx (by rw [hp]; exact h))
  · have hs' : s.length ≤ 200 := by omega
    have hp : pGo s (s.length + 1) 0 [] [] [] = parseN s := (if_neg hs).symm
    refine WP_scope (PI s (parseN s)) (s.length + 1 + 2) (by omega) ?_ (fun l m a o nx rest hf hI => parse_step hs' hf hI hret)
    refine parse_start hs' (by simp (disch := omega) only [go_sem, ↓IntWalk.iteOmega, IntWalk.toNatUp, Nat.reduceEqDiff, Nat.reduceAdd, Nat.reduceMul, Nat.reduceSub, Nat.reduceLT, Nat.reduceLeDiff, Int.reduceToNat, Int.reduceLT, Int.reduceLE, Int.reduceEq, Int.reduceAdd, Int.reduceSub, Int.reduceMul, Int.toNat_natCast, reduceCtorEq, decide_true, decide_false, IntWalk.i64_in, IntWalk.u64_in, IntWalk.u8_in]) (by simp (disch := omega) only [go_sem, ↓IntWalk.iteOmega, IntWalk.toNatUp, Nat.reduceEqDiff, Nat.reduceAdd, Nat.reduceMul, Nat.reduceSub, Nat.reduceLT, Nat.reduceLeDiff, Int.reduceToNat, Int.reduceLT, Int.reduceLE, Int.reduceEq, Int.reduceAdd, Int.reduceSub, Int.reduceMul, Int.toNat_natCast, reduceCtorEq, decide_true, decide_false, IntWalk.i64_in, IntWalk.u64_in, IntWalk.u8_in]) (by simp (disch := omega) only [go_sem, ↓IntWalk.iteOmega, IntWalk.toNatUp, Nat.reduceEqDiff, Nat.reduceAdd, Nat.reduceMul, Nat.reduceSub, Nat.reduceLT, Nat.reduceLeDiff, Int.reduceToNat, Int.reduceLT, Int.reduceLE, Int.reduceEq, Int.reduceAdd, Int.reduceSub, Int.reduceMul, Int.toNat_natCast, reduceCtorEq, decide_true, decide_false, IntWalk.i64_in, IntWalk.u64_in, IntWalk.u8_in]) (fun a o nx h => ?_)
    exact lab1 hs' h (by omega) (by omega) hp (fun a o nx m' h1 h2 => by rw [scopeQ_goto fl1]; exact ⟨m', h1, h2⟩) (fun a o nx m' h1 h2 => by rw [scopeQ_goto fl0]; exact ⟨m', h1, h2⟩) (fun a o nx m' h1 h2 => by rw [scopeQ_goto fl2]; exact ⟨m', h1, h2⟩) hret
end Go.Proofs.YtmcbfbpdfbcakaaDoor.A
/- Long expressions: what Parse tells of them. -/
namespace Go.Proofs.YtmcbfbpdfbcakaaDoor.A
open Go
set_option maxRecDepth 20000
def RParse (args : List AV) (r : AV) : Prop := ∃ s, args = [.str s] ∧ r = .tup [nodeV (parseN s).1, .int .i64 (parseN s).2.1, .int .i64 (parseN s).2.2]
theorem RParse_ok (args r) (h : RParse args r) : Ok Tryd.prog 18 args r := by
  obtain ⟨s, rfl, rfl⟩ := h
  exact parse_ok s
theorem RParse_fn : Fun1 RParse := by
  rintro args r r' ⟨s, rfl, rfl⟩ ⟨s', h, rfl⟩
  simp only [List.cons.injEq, AV.str.injEq, and_true] at h
  rw [h]
/-- The table of contracts: known, Parse of whatever text, within. -/
noncomputable def XLP : FuncId → List AV → Option AV := tabLook [(13, tRel RKn4), (18, tRel RParse), (17, tRel RW)]
theorem XLP_ok : CPSound Tryd.prog XLP := tab_cons (tab_cons (tab_cons (tab_nil _) (tRel_ok within2_ok)) (tRel_ok RParse_ok)) (tRel_ok RKn4_ok)
theorem XLP_known : XLP 13 [] = some (.bool true) := tRel_eq (R := RKn4) RKn4_fn ⟨rfl, rfl⟩
theorem XLP_within (a n : Int) (h1 : 0 < n) (h2 : n ≤ 1000000) : XLP 17 [.int .i64 a, .int .i64 n] = some (.int .i64 (a % n)) := rw_eq h1 h2
theorem XLP_parse (s : List UInt8) : XLP 18 [.str s] = some (.tup [nodeV (parseN s).1, .int .i64 (parseN s).2.1, .int .i64 (parseN s).2.2]) := tRel_eq RParse_fn ⟨s, rfl, rfl⟩
def lenN : Nd → Nat
  | .mk _ _ _ _ l => l.length
def longS (k : Nat) (bad : Bool) : List UInt8 := if bad then List.replicate (k - 1) 119 ++ [120] else List.replicate k 119
def longE (k : Nat) (bad : Bool) : Int × Int := if 200 < k then (0, 4) else if bad then ((k : Int) - 1, 3) else (0, 0)
def longC (k : Nat) (bad : Bool) : Bool := decide ((parseN (longS k bad)).2 = longE k bad) && (decide (200 < k) || bad || (decide (kindN (parseN (longS k bad)).1 = 4) && decide (lenN (parseN (longS k bad)).1 = k)))
theorem long_all : (List.range 20).all (fun q => longC (190 + q) true && longC (190 + q) false) = true := by decide +kernel
theorem long_at {k : Nat} (h1 : 190 ≤ k) (h2 : k < 210) (bad : Bool) : longC k bad = true := by
  have h := List.all_eq_true.1 long_all (k - 190) (List.mem_range.2 (by omega))
  rw [Bool.and_eq_true] at h
  have e : 190 + (k - 190) = k := by omega
  rw [e] at h
  cases bad with
  | true => exact h.1
  | false => exact h.2
end Go.Proofs.YtmcbfbpdfbcakaaDoor.A
namespace Go.Proofs.YtmcbfbpdfbcakaaDoor.A
open Go
set_option maxRecDepth 20000
theorem rep_snoc (k : Nat) (x : UInt8) : List.replicate k x ++ [x] = List.replicate (k + 1) x := by rw [List.replicate_succ']
theorem lookLong (X) : lookedAt (EX md0 X) (fun _ => none) 2 Tryd.f8 = true := by kernel_rfl
theorem long_wp (X : FuncId → List AV → Option AV) (n : Int) (bad : Bool) (hkn : X 13 [] = some (.bool true)) (hwi : X 17 [.int .i64 n, .int .i64 20] = some (.int .i64 (n % 20)))
    (hp : ∀ s, X 18 [.str s] = some (.tup [nodeV (parseN s).1, .int .i64 (parseN s).2.1, .int .i64 (parseN s).2.2])) :
    WP (EX md0 X) noR 300 (fun _ => none) (Tryd.f8.body.getD .skip) (begin_ [.int .i64 n, .bool bad]) (fun _ => none) 0 (fun u a o nx => (u = .normal ∨ u = .ret) ∧ view o vDepth (a 4) = .bool true) := by
  have h0 := Int.emod_nonneg n (show (20 : Int) ≠ 0 by decide)
  have h1 := Int.emod_lt_of_pos n (show (0 : Int) < 20 by decide)
  generalize n % 20 = q at *
  obtain ⟨k, rfl⟩ := Int.eq_ofNat_of_zero_le h0
  obtain ⟨K, hK⟩ : ∃ K, K = 190 + k := ⟨_, rfl⟩
  have hK' : (190 : Int) + k = K := by omega
  have hlong := long_at (k := K) (by omega) (by omega) bad
  simp only [Tryd.f8, Option.getD_some]
  simp (disch := omega) only [go_sem, ↓IntWalk.iteOmega, IntWalk.toNatUp, Nat.reduceEqDiff, Nat.reduceAdd, Nat.reduceMul, Nat.reduceSub, Nat.reduceLT, Nat.reduceLeDiff, Int.reduceToNat, Int.reduceLT, Int.reduceLE, Int.reduceEq, Int.reduceAdd, Int.reduceSub, Int.reduceMul, Int.toNat_natCast, reduceCtorEq, decide_true, decide_false, IntWalk.i64_in, IntWalk.u64_in, IntWalk.u8_in, hkn, hwi, hK']
  refine WP_loop (fun m a o nx => ∃ i : Nat, i ≤ K ∧ m = K - i ∧ a 1 = .bool bad ∧ a 5 = .int .i64 K ∧ a 6 = .str (List.replicate i 119) ∧ a 7 = .int .i64 i) K (by omega) ⟨0, by omega, by omega, by simp (disch := omega) only [go_sem, ↓IntWalk.iteOmega, IntWalk.toNatUp, Nat.reduceEqDiff, Nat.reduceAdd, Nat.reduceMul, Nat.reduceSub, Nat.reduceLT, Nat.reduceLeDiff, Int.reduceToNat, Int.reduceLT, Int.reduceLE, Int.reduceEq, Int.reduceAdd, Int.reduceSub, Int.reduceMul, Int.toNat_natCast, reduceCtorEq, decide_true, decide_false, IntWalk.i64_in, IntWalk.u64_in, IntWalk.u8_in], by simp (disch := omega) only [go_sem, ↓IntWalk.iteOmega, IntWalk.toNatUp, Nat.reduceEqDiff, Nat.reduceAdd, Nat.reduceMul, Nat.reduceSub, Nat.reduceLT, Nat.reduceLeDiff, Int.reduceToNat, Int.reduceLT, Int.reduceLE, Int.reduceEq, Int.reduceAdd, Int.reduceSub, Int.reduceMul, Int.toNat_natCast, reduceCtorEq, decide_true, decide_false, IntWalk.i64_in, IntWalk.u64_in, IntWalk.u8_in], by simp (disch := omega) only [go_sem, ↓IntWalk.iteOmega, IntWalk.toNatUp, Nat.reduceEqDiff, Nat.reduceAdd, Nat.reduceMul, Nat.reduceSub, Nat.reduceLT, Nat.reduceLeDiff, Int.reduceToNat, Int.reduceLT, Int.reduceLE, Int.reduceEq, Int.reduceAdd, Int.reduceSub, Int.reduceMul, Int.toNat_natCast, reduceCtorEq, decide_true, decide_false, IntWalk.i64_in, IntWalk.u64_in, IntWalk.u8_in]; rfl, by simp (disch := omega) only [go_sem, ↓IntWalk.iteOmega, IntWalk.toNatUp, Nat.reduceEqDiff, Nat.reduceAdd, Nat.reduceMul, Nat.reduceSub, Nat.reduceLT, Nat.reduceLeDiff, Int.reduceToNat, Int.reduceLT, Int.reduceLE, Int.reduceEq, Int.reduceAdd, Int.reduceSub, Int.reduceMul, Int.toNat_natCast, reduceCtorEq, decide_true, decide_false, IntWalk.i64_in, IntWalk.u64_in, IntWalk.u8_in]⟩ ?_
  rintro m a o nx ⟨i, hi, rfl, a1, a5, a6, a7⟩
  by_cases hlt : i < K
  · simp (disch := omega) only [go_sem, ↓IntWalk.iteOmega, IntWalk.toNatUp, Nat.reduceEqDiff, Nat.reduceAdd, Nat.reduceMul, Nat.reduceSub, Nat.reduceLT, Nat.reduceLeDiff, Int.reduceToNat, Int.reduceLT, Int.reduceLE, Int.reduceEq, Int.reduceAdd, Int.reduceSub, Int.reduceMul, Int.toNat_natCast, reduceCtorEq, decide_true, decide_false, IntWalk.i64_in, IntWalk.u64_in, IntWalk.u8_in, a1, a5, a6, a7, rep_snoc]
    exact ⟨_, by omega, i + 1, by omega, rfl, rfl, rfl⟩
  · have hie : i = K := by omega
    subst hie
    have e := hp (longS i bad)
    unfold longC longE at hlong
    rw [Bool.and_eq_true] at hlong
    obtain ⟨e1, e2⟩ := hlong
    have e1 := of_decide_eq_true e1
    generalize parseN (longS i bad) = r at *
    obtain ⟨N, at_, er⟩ := r
    simp only at e e1 e2
    cases bad with
    | true =>
      have hl : longS i true = List.replicate (i - 1) 119 ++ [120] := rfl
      rw [hl] at e
      have htk : (List.replicate i (119 : UInt8)).take (i - 1) = List.replicate (i - 1) 119 := by rw [List.take_replicate, Nat.min_eq_left (by omega)]
      have htk' : (List.replicate i (119 : UInt8)).length = i := List.length_replicate
      by_cases h20 : 200 < i
      · rw [if_pos h20] at e1
        injection e1 with e3 e4
        subst e3 e4
        simp (disch := omega) only [go_sem, ↓IntWalk.iteOmega, IntWalk.toNatUp, Nat.reduceEqDiff, Nat.reduceAdd, Nat.reduceMul, Nat.reduceSub, Nat.reduceLT, Nat.reduceLeDiff, Int.reduceToNat, Int.reduceLT, Int.reduceLE, Int.reduceEq, Int.reduceAdd, Int.reduceSub, Int.reduceMul, Int.toNat_natCast, reduceCtorEq, decide_true, decide_false, IntWalk.i64_in, IntWalk.u64_in, IntWalk.u8_in, a1, a5, a6, a7, e, htk, htk']
      · rw [if_neg h20, if_pos rfl] at e1
        injection e1 with e3 e4
        subst e3 e4
        simp (disch := omega) only [go_sem, ↓IntWalk.iteOmega, IntWalk.toNatUp, Nat.reduceEqDiff, Nat.reduceAdd, Nat.reduceMul, Nat.reduceSub, Nat.reduceLT, Nat.reduceLeDiff, Int.reduceToNat, Int.reduceLT, Int.reduceLE, Int.reduceEq, Int.reduceAdd, Int.reduceSub, Int.reduceMul, Int.toNat_natCast, reduceCtorEq, decide_true, decide_false, IntWalk.i64_in, IntWalk.u64_in, IntWalk.u8_in, a1, a5, a6, a7, e, htk, htk']
    | false =>
      have hl : longS i false = List.replicate i 119 := rfl
      rw [hl] at e
      by_cases h20 : 200 < i
      · rw [if_pos h20] at e1
        injection e1 with e3 e4
        subst e3 e4
        simp (disch := omega) only [go_sem, ↓IntWalk.iteOmega, IntWalk.toNatUp, Nat.reduceEqDiff, Nat.reduceAdd, Nat.reduceMul, Nat.reduceSub, Nat.reduceLT, Nat.reduceLeDiff, Int.reduceToNat, Int.reduceLT, Int.reduceLE, Int.reduceEq, Int.reduceAdd, Int.reduceSub, Int.reduceMul, Int.toNat_natCast, reduceCtorEq, decide_true, decide_false, IntWalk.i64_in, IntWalk.u64_in, IntWalk.u8_in, a1, a5, a6, a7, e]
      · rw [if_neg h20, if_neg (by decide)] at e1
        injection e1 with e3 e4
        subst e3 e4
        obtain ⟨kk, ss, lo, hi2, l⟩ := N
        have e5 : kk = 4 ∧ l.length = i := by
          rw [Bool.or_false, Bool.or_eq_true, Bool.and_eq_true] at e2
          rcases e2 with e2 | e2
          · exact absurd (of_decide_eq_true e2) h20
          · exact ⟨of_decide_eq_true e2.1, of_decide_eq_true e2.2⟩
        obtain ⟨rfl, e6⟩ := e5
        simp (disch := omega) only [go_sem, ↓IntWalk.iteOmega, IntWalk.toNatUp, Nat.reduceEqDiff, Nat.reduceAdd, Nat.reduceMul, Nat.reduceSub, Nat.reduceLT, Nat.reduceLeDiff, Int.reduceToNat, Int.reduceLT, Int.reduceLE, Int.reduceEq, Int.reduceAdd, Int.reduceSub, Int.reduceMul, Int.toNat_natCast, reduceCtorEq, decide_true, decide_false, IntWalk.i64_in, IntWalk.u64_in, IntWalk.u8_in, a1, a5, a6, a7, e, e6]
theorem long_ok (n : Int) (bad : Bool) : Ok Tryd.prog 8 [.int .i64 n, .bool bad] (.bool true) := by
  refine ok_of_WP (E := EX md0 XLP) (cr := noR) XLP_ok (noR_ok _) mixed (k := 300) Tryd.func8 (lookLong _) rfl (WP_mono (long_wp XLP n bad XLP_known (XLP_within n 20 (by omega) (by omega)) XLP_parse) ?_)
  rintro u a o nx ⟨h, hv⟩
  refine ⟨h, ?_⟩
  simp only [Tryd.f8]
  simp (disch := omega) only [go_sem, ↓IntWalk.iteOmega, IntWalk.toNatUp, Nat.reduceEqDiff, Nat.reduceAdd, Nat.reduceMul, Nat.reduceSub, Nat.reduceLT, Nat.reduceLeDiff, Int.reduceToNat, Int.reduceLT, Int.reduceLE, Int.reduceEq, Int.reduceAdd, Int.reduceSub, Int.reduceMul, Int.toNat_natCast, reduceCtorEq, decide_true, decide_false, IntWalk.i64_in, IntWalk.u64_in, IntWalk.u8_in]
  exact hv
end Go.Proofs.YtmcbfbpdfbcakaaDoor.A

namespace Go.Proofs.YtmcbfbpdfbcakaaDoor
open Go Go.Proofs.YtmcbfbpdfbcakaaDoor.A
set_option maxRecDepth 100000 in
theorem regexLong_lifted (os : Os) (started : os.Started) (H : Type) (enc : TypeId × Value → H) :
    ReturnsInHanded {} Tryd.checked os 8 .any (fun w args => (Rows.regexLongSpec.pre enc Tryd.prog Tryd.f8 [] false w args ∧ laidMetH Tryd.prog laidL w) ∧ sizedMet enc Tryd.prog Tryd.f8 (OpenSpec.ofChange Rows.regexLongSpec) false w args) (Rows.regexLongSpec.post enc Tryd.prog Tryd.f8 false true false false) :=
  law_laid (C := Tryd.checked) (L := laidL) laidL_noh Tryd.own started (by kernel_rfl) Tryd.func8
    (ChangeSpec.witness_at (enc := enc) (C := Tryd.checked) (os := os) (X := fun w _ => laidMetH Tryd.prog laidL w) false (laidWorld os) #[.int .i64 0, .bool false] 8 rfl (by kernel_rfl) (by kernel_rfl) (by kernel_rfl) (by kernel_rfl) (by kernel_rfl) (laidWorld_met os _))
    Tryd.laidOut (ks := [3, 4]) (by kernel_rfl) (by kernel_rfl) (tb := 4) (by kernel_rfl) (by kernel_rfl) rfl
    (fun ds hds => by
      match ds, hds with
      | [_, _], _ => exact ⟨rfl, rfl, rfl⟩)
    laid_gl (fun xs hxs => by
      rw [show Tryd.f8.params.toList = [3, 4] from rfl] at hxs
      match xs, hxs with
      | [x1, x2], ⟨h1, h2, _⟩ =>
        obtain ⟨n1, rfl, _⟩ := arg_int (k := .i64) (by kernel_rfl) h1
        obtain ⟨n2, rfl⟩ := arg_bool (by kernel_rfl) h2
        exact long_ok n1 n2)
theorem regexLong_row_holds : Rows.RegexLongSaid :=
  OpenClaim.holds_of_wide 8 Tryd.f8 rfl rfl rfl rfl rfl rfl rfl ⟨rfl, rfl, rfl, rfl, rfl⟩ rfl rfl rfl rfl rfl (by kernel_rfl) Tryd.func8 (by kernel_rfl)
    (of_decide_eq_true (by kernel_rfl)) (by unfold Func.isWrapper; first | (rw [if_pos (by decide +kernel)]; kernel_rfl) | (rw [if_neg (by decide +kernel)]; exact ⟨rfl, rfl⟩))
    (fun os started H enc _ => regexLong_lifted os started H enc)
theorem regexLong_card_holds : Rows.RegexLongCardSaid :=
  Claim7.holds_tied_plain_at .later [] [.data, .data, .data] true (true, "252fabc33c00c899ba09f24c312bfa73cda626b39cff52bd3a4e30b2933ed510") false
    regexLong_row_holds (fun _ h => by cases h) (by kernel_rfl) (fun _ h => by cases h) regexLong_row_tie rfl ⟨rfl, rfl⟩ (by kernel_rfl) rfl
    (fun f fn hf hfn => by
      obtain rfl : f = 8 := (Option.some.inj ((show Tryd.prog.funcNamed "milestone/milestonelaw4.RegexLong" = some 8 by kernel_rfl).symm.trans hf)).symm
      obtain rfl : fn = Tryd.f8 := (Option.some.inj (Tryd.func8.symm.trans hfn)).symm
      refine ⟨by kernel_rfl, fun j t ht => ?_⟩
      exact (wants_all (by kernel_rfl : (Tryd.f8.params.toList.all fun t => !Tryd.prog.wantsStandIn t) = true) ht))
    (by kernel_rfl)
end Go.Proofs.YtmcbfbpdfbcakaaDoor
