/- Expressions read: Parse's contract. -/
import Derived.Lib.Join
import Derived.Shelf.Strconv.Itoa3
import Derived.Test.YtmcbfbpdfbcakaaDoorMLRParts1
import Derived.Test.YtmcbfbpdfbcakaaDoorMLRParts2
import Derived.Test.YtmcbfbpdfbcakaaDoorMLRParts3
import Derived.Test.YtmcbfbpdfbcakaaDoorMLRParts4
import Derived.Test.YtmcbfbpdfbcakaaDoorMLRParts5
import Derived.Test.YtmcbfbpdfbcakaaDoorMLRParts6
set_option linter.unusedVariables false
set_option linter.unusedSimpArgs false
set_option linter.unnecessarySimpa false
namespace Go.Proofs.YtmcbfbpdfbcakaaDoor.A
open Go
set_option maxRecDepth 20000
theorem lab2 {s : List UInt8} {R : Nd × Int × Int} {a : AAct} {o : Ob} {nx : Nat} {at_ U J B g b D pre vU vJ post} (h : PS s a o nx at_ U J B g b D pre vU vJ post) (hR : (zeroN, at_, 3) = R) {Q : WPost} (qr : ∀ a o nx, RetOK R a o → Q .ret a o nx) {k : Nat} :
    WP (EX md0 XPz) crP k nzP r2 a o nx Q := by
  obtain ⟨a0, a2, a5, a6, a7, o2, stk, bel, b3, bn, lv, D1, U1, J1, at0, at1⟩ := h
  have hcell := stk.cell
  have hpar := stk.par
  simp only [r2, bP, pathC, Tryd.f18, Option.getD_some]
  simp (disch := omega) only [go_sem, ↓IntWalk.iteOmega, IntWalk.toNatUp, Nat.reduceEqDiff, Nat.reduceAdd, Nat.reduceMul, Nat.reduceSub, Nat.reduceLT, Nat.reduceLeDiff, Int.reduceToNat, Int.reduceLT, Int.reduceLE, Int.reduceEq, Int.reduceAdd, Int.reduceSub, Int.reduceMul, Int.toNat_natCast, reduceCtorEq, decide_true, decide_false, IntWalk.i64_in, IntWalk.u64_in, IntWalk.u8_in, nzP, a0, a2, a5, a6, a7, o2, hcell, hpar]
  subst hR
  exact qr _ _ _ ⟨by simp (disch := omega) only [go_sem, ↓IntWalk.iteOmega, IntWalk.toNatUp, Nat.reduceEqDiff, Nat.reduceAdd, Nat.reduceMul, Nat.reduceSub, Nat.reduceLT, Nat.reduceLeDiff, Int.reduceToNat, Int.reduceLT, Int.reduceLE, Int.reduceEq, Int.reduceAdd, Int.reduceSub, Int.reduceMul, Int.toNat_natCast, reduceCtorEq, decide_true, decide_false, IntWalk.i64_in, IntWalk.u64_in, IntWalk.u8_in, a2], ⟨nd0, by simp (disch := omega) only [go_sem, ↓IntWalk.iteOmega, IntWalk.toNatUp, Nat.reduceEqDiff, Nat.reduceAdd, Nat.reduceMul, Nat.reduceSub, Nat.reduceLT, Nat.reduceLeDiff, Int.reduceToNat, Int.reduceLT, Int.reduceLE, Int.reduceEq, Int.reduceAdd, Int.reduceSub, Int.reduceMul, Int.toNat_natCast, reduceCtorEq, decide_true, decide_false, IntWalk.i64_in, IntWalk.u64_in, IntWalk.u8_in], rfl, zero_view⟩, by simp (disch := omega) only [go_sem, ↓IntWalk.iteOmega, IntWalk.toNatUp, Nat.reduceEqDiff, Nat.reduceAdd, Nat.reduceMul, Nat.reduceSub, Nat.reduceLT, Nat.reduceLeDiff, Int.reduceToNat, Int.reduceLT, Int.reduceLE, Int.reduceEq, Int.reduceAdd, Int.reduceSub, Int.reduceMul, Int.toNat_natCast, reduceCtorEq, decide_true, decide_false, IntWalk.i64_in, IntWalk.u64_in, IntWalk.u8_in], by simp (disch := omega) only [go_sem, ↓IntWalk.iteOmega, IntWalk.toNatUp, Nat.reduceEqDiff, Nat.reduceAdd, Nat.reduceMul, Nat.reduceSub, Nat.reduceLT, Nat.reduceLeDiff, Int.reduceToNat, Int.reduceLT, Int.reduceLE, Int.reduceEq, Int.reduceAdd, Int.reduceSub, Int.reduceMul, Int.toNat_natCast, reduceCtorEq, decide_true, decide_false, IntWalk.i64_in, IntWalk.u64_in, IntWalk.u8_in]⟩
theorem lab0 {s : List UInt8} {R : Nd × Int × Int} {a : AAct} {o : Ob} {nx : Nat} {at_ U J B g b D pre vU vJ post} (h : PS s a o nx at_ U J B g b D pre vU vJ post) (hR : (if B ≠ [] ∨ J = [] then (zeroN, at_, 3) else (manyN 5 (U ++ [manyN 4 J]), 0, 0)) = R) {Q : WPost}
    (q2 : ∀ a o nx, PI s R 2 0 a o nx → Q (.goto 2) a o nx) (qr : ∀ a o nx, RetOK R a o → Q .ret a o nx) {k : Nat} :
    WP (EX md0 XPz) crP k nzP r0 a o nx Q := by
  have hps := h
  obtain ⟨a0, a2, a5, a6, a7, o2, stk, bel, b3, bn, lv, D1, U1, J1, at0, at1⟩ := h
  have hcell := stk.cell
  have hpar := stk.par
  have hlev := stk.lev
  have hpre := stk.len
  have hle := stk.le
  have d0 : ∀ x y : AV, (pre ++ x :: y :: post).drop (B.length * 2) = x :: y :: post := fun x y => drop_p0 hpre
  have d1 : ∀ x y : AV, (pre ++ x :: y :: post).drop (B.length * 2 + 1) = y :: post := fun x y => drop_p1 hpre
  have h6 : ∀ x y : AV, (pre ++ x :: y :: post).length = B.length * 2 + (post.length + 2) := fun x y => by rw [List.length_append, hpre]; rfl
  simp only [r0, bP, pathC, Tryd.f18, Option.getD_some]
  by_cases c1 : B = []
  · have hBl : B.length = 0 := by rw [c1]; rfl
    by_cases c2 : J = []
    · rw [if_pos (.inr c2)] at hR
      have hvJ : vJ = .nil ∨ ∃ i gj, vJ = .ref (i, 11) gj 0 0 := by
        rcases lv.j with ⟨e, _⟩ | ⟨i, gj, cs, _, _, e, _, _⟩
        · exact .inl e
        · exact .inr ⟨i, gj, by rw [e, c2]; rfl⟩
      simp (disch := omega) only [go_sem, ↓IntWalk.iteOmega, IntWalk.toNatUp, Nat.reduceEqDiff, Nat.reduceAdd, Nat.reduceMul, Nat.reduceSub, Nat.reduceLT, Nat.reduceLeDiff, Int.reduceToNat, Int.reduceLT, Int.reduceLE, Int.reduceEq, Int.reduceAdd, Int.reduceSub, Int.reduceMul, Int.toNat_natCast, reduceCtorEq, decide_true, decide_false, IntWalk.i64_in, IntWalk.u64_in, IntWalk.u8_in, nzP, a0, a2, a5, a6, a7, o2, hcell, hpar, hlev, crP_top]
      refine top_call (stk.keep (by omega) rfl rfl rfl) ?_
      rcases hvJ with rfl | ⟨i, gj, rfl⟩
      · simp (disch := omega) only [go_sem, ↓IntWalk.iteOmega, IntWalk.toNatUp, Nat.reduceEqDiff, Nat.reduceAdd, Nat.reduceMul, Nat.reduceSub, Nat.reduceLT, Nat.reduceLeDiff, Int.reduceToNat, Int.reduceLT, Int.reduceLE, Int.reduceEq, Int.reduceAdd, Int.reduceSub, Int.reduceMul, Int.toNat_natCast, reduceCtorEq, decide_true, decide_false, IntWalk.i64_in, IntWalk.u64_in, IntWalk.u8_in, nzP, a0, a2, a5, a6, a7, o2, hcell, hpar, hlev, d0, d1, h6]
        exact q2 _ _ _ ⟨_, _, _, _, _, _, _, _, _, _, _, hps.same (by unfold AOk; simp (disch := omega) only [go_sem, ↓IntWalk.iteOmega, IntWalk.toNatUp, Nat.reduceEqDiff, Nat.reduceAdd, Nat.reduceMul, Nat.reduceSub, Nat.reduceLT, Nat.reduceLeDiff, Int.reduceToNat, Int.reduceLT, Int.reduceLE, Int.reduceEq, Int.reduceAdd, Int.reduceSub, Int.reduceMul, Int.toNat_natCast, reduceCtorEq, decide_true, decide_false, IntWalk.i64_in, IntWalk.u64_in, IntWalk.u8_in, a0, a2, a5, a6, a7]) (by omega), .inr (.inr ⟨rfl, rfl, hR⟩)⟩
      · simp (disch := omega) only [go_sem, ↓IntWalk.iteOmega, IntWalk.toNatUp, Nat.reduceEqDiff, Nat.reduceAdd, Nat.reduceMul, Nat.reduceSub, Nat.reduceLT, Nat.reduceLeDiff, Int.reduceToNat, Int.reduceLT, Int.reduceLE, Int.reduceEq, Int.reduceAdd, Int.reduceSub, Int.reduceMul, Int.toNat_natCast, reduceCtorEq, decide_true, decide_false, IntWalk.i64_in, IntWalk.u64_in, IntWalk.u8_in, nzP, a0, a2, a5, a6, a7, o2, hcell, hpar, hlev, d0, d1, h6]
        exact q2 _ _ _ ⟨_, _, _, _, _, _, _, _, _, _, _, hps.same (by unfold AOk; simp (disch := omega) only [go_sem, ↓IntWalk.iteOmega, IntWalk.toNatUp, Nat.reduceEqDiff, Nat.reduceAdd, Nat.reduceMul, Nat.reduceSub, Nat.reduceLT, Nat.reduceLeDiff, Int.reduceToNat, Int.reduceLT, Int.reduceLE, Int.reduceEq, Int.reduceAdd, Int.reduceSub, Int.reduceMul, Int.toNat_natCast, reduceCtorEq, decide_true, decide_false, IntWalk.i64_in, IntWalk.u64_in, IntWalk.u8_in, a0, a2, a5, a6, a7]) (by omega), .inr (.inr ⟨rfl, rfl, hR⟩)⟩
    · rw [if_neg (by simp [c1, c2])] at hR
      have hJl : ¬ J.length = 0 := fun e => c2 (List.length_eq_zero_iff.1 e)
      obtain ⟨i, gj, rfl⟩ : ∃ i gj, vJ = .ref (i, 11) gj 0 J.length := by
        rcases lv.j with ⟨_, e⟩ | ⟨i, gj, cs, _, _, e, _, _⟩
        · exact absurd e c2
        · exact ⟨i, gj, e⟩
      simp (disch := omega) only [go_sem, ↓IntWalk.iteOmega, IntWalk.toNatUp, Nat.reduceEqDiff, Nat.reduceAdd, Nat.reduceMul, Nat.reduceSub, Nat.reduceLT, Nat.reduceLeDiff, Int.reduceToNat, Int.reduceLT, Int.reduceLE, Int.reduceEq, Int.reduceAdd, Int.reduceSub, Int.reduceMul, Int.toNat_natCast, reduceCtorEq, decide_true, decide_false, IntWalk.i64_in, IntWalk.u64_in, IntWalk.u8_in, nzP, a0, a2, a5, a6, a7, o2, hcell, hpar, hlev, crP_top]
      refine top_call (stk.keep (by omega) rfl rfl rfl) ?_
      simp (disch := omega) only [go_sem, ↓IntWalk.iteOmega, IntWalk.toNatUp, Nat.reduceEqDiff, Nat.reduceAdd, Nat.reduceMul, Nat.reduceSub, Nat.reduceLT, Nat.reduceLeDiff, Int.reduceToNat, Int.reduceLT, Int.reduceLE, Int.reduceEq, Int.reduceAdd, Int.reduceSub, Int.reduceMul, Int.toNat_natCast, reduceCtorEq, decide_true, decide_false, IntWalk.i64_in, IntWalk.u64_in, IntWalk.u8_in, nzP, a0, a2, a5, a6, a7, o2, hcell, hpar, hlev, d0, d1, h6, hJl, crP_top]
      refine top_call (stk.keep (by omega) rfl rfl rfl) ?_
      simp (disch := omega) only [go_sem, ↓IntWalk.iteOmega, IntWalk.toNatUp, Nat.reduceEqDiff, Nat.reduceAdd, Nat.reduceMul, Nat.reduceSub, Nat.reduceLT, Nat.reduceLeDiff, Int.reduceToNat, Int.reduceLT, Int.reduceLE, Int.reduceEq, Int.reduceAdd, Int.reduceSub, Int.reduceMul, Int.toNat_natCast, reduceCtorEq, decide_true, decide_false, IntWalk.i64_in, IntWalk.u64_in, IntWalk.u8_in, nzP, a0, a2, a5, a6, a7, o2, hcell, hpar, hlev, d0, d1, h6, hJl, crP_or]
      refine or_call (stk.keep (by omega) rfl rfl rfl) (lv.keep (by omega) (fun _ _ _ _ _ => rfl)) b3 (by omega) (by omega) c2 (by omega) (by omega) (fun o1 nx1 vU1 e1 e2 e3 e4 => ?_)
      have hcell1 := e2.cell
      have hpar1 := e2.par
      have hlev1 := e2.lev
      have o21 := (e4.o2 b3 (by omega)).trans o2
      simp (disch := omega) only [go_sem, ↓IntWalk.iteOmega, IntWalk.toNatUp, Nat.reduceEqDiff, Nat.reduceAdd, Nat.reduceMul, Nat.reduceSub, Nat.reduceLT, Nat.reduceLeDiff, Int.reduceToNat, Int.reduceLT, Int.reduceLE, Int.reduceEq, Int.reduceAdd, Int.reduceSub, Int.reduceMul, Int.toNat_natCast, reduceCtorEq, decide_true, decide_false, IntWalk.i64_in, IntWalk.u64_in, IntWalk.u8_in, nzP, a0, a2, a5, a6, a7, hcell1, hpar1, hlev1, crP_top]
      refine top_call (e2.keep (by omega) rfl rfl rfl) ?_
      have hne : U ++ [manyN 4 J] ≠ [] := by simp
      have hUl : (U ++ [manyN 4 J]).length ≤ 1000 := by rw [List.length_append, List.length_singleton]; omega
      have hv := e3.viewU hne
      have ht := e3.tagsU
      have hX := XPz_many 5 (U ++ [manyN 4 J]) hne hUl
      generalize U ++ [manyN 4 J] = W at *
      have hn : ∀ i k, k ≠ 14 → nin (i, k) (viewTags o1 1012 vU1) = true := fun i k e1 => nin_of (fun hm => e1 (ht _ hm).1)
      simp (disch := omega) only [go_sem, ↓IntWalk.iteOmega, IntWalk.toNatUp, Nat.reduceEqDiff, Nat.reduceAdd, Nat.reduceMul, Nat.reduceSub, Nat.reduceLT, Nat.reduceLeDiff, Int.reduceToNat, Int.reduceLT, Int.reduceLE, Int.reduceEq, Int.reduceAdd, Int.reduceSub, Int.reduceMul, Int.toNat_natCast, reduceCtorEq, decide_true, decide_false, IntWalk.i64_in, IntWalk.u64_in, IntWalk.u8_in, nzP, a0, a2, a5, a6, a7, hcell1, hpar1, hlev1, o21, d0, d1, h6, hv, hX, hn]
      subst hR
      exact qr _ _ _ ⟨by simp (disch := omega) only [go_sem, ↓IntWalk.iteOmega, IntWalk.toNatUp, Nat.reduceEqDiff, Nat.reduceAdd, Nat.reduceMul, Nat.reduceSub, Nat.reduceLT, Nat.reduceLeDiff, Int.reduceToNat, Int.reduceLT, Int.reduceLE, Int.reduceEq, Int.reduceAdd, Int.reduceSub, Int.reduceMul, Int.toNat_natCast, reduceCtorEq, decide_true, decide_false, IntWalk.i64_in, IntWalk.u64_in, IntWalk.u8_in, a2], ⟨cNd (manyN 5 W), by simp (disch := omega) only [go_sem, ↓IntWalk.iteOmega, IntWalk.toNatUp, Nat.reduceEqDiff, Nat.reduceAdd, Nat.reduceMul, Nat.reduceSub, Nat.reduceLT, Nat.reduceLeDiff, Int.reduceToNat, Int.reduceLT, Int.reduceLE, Int.reduceEq, Int.reduceAdd, Int.reduceSub, Int.reduceMul, Int.toNat_natCast, reduceCtorEq, decide_true, decide_false, IntWalk.i64_in, IntWalk.u64_in, IntWalk.u8_in], cNd_length _, fun o' e => view_cNd o' e _⟩, by simp (disch := omega) only [go_sem, ↓IntWalk.iteOmega, IntWalk.toNatUp, Nat.reduceEqDiff, Nat.reduceAdd, Nat.reduceMul, Nat.reduceSub, Nat.reduceLT, Nat.reduceLeDiff, Int.reduceToNat, Int.reduceLT, Int.reduceLE, Int.reduceEq, Int.reduceAdd, Int.reduceSub, Int.reduceMul, Int.toNat_natCast, reduceCtorEq, decide_true, decide_false, IntWalk.i64_in, IntWalk.u64_in, IntWalk.u8_in], by simp (disch := omega) only [go_sem, ↓IntWalk.iteOmega, IntWalk.toNatUp, Nat.reduceEqDiff, Nat.reduceAdd, Nat.reduceMul, Nat.reduceSub, Nat.reduceLT, Nat.reduceLeDiff, Int.reduceToNat, Int.reduceLT, Int.reduceLE, Int.reduceEq, Int.reduceAdd, Int.reduceSub, Int.reduceMul, Int.toNat_natCast, reduceCtorEq, decide_true, decide_false, IntWalk.i64_in, IntWalk.u64_in, IntWalk.u8_in]⟩
  · rw [if_pos (.inl c1)] at hR
    have hBl : ¬ B.length = 0 := fun e => c1 (List.length_eq_zero_iff.1 e)
    simp (disch := omega) only [go_sem, ↓IntWalk.iteOmega, IntWalk.toNatUp, Nat.reduceEqDiff, Nat.reduceAdd, Nat.reduceMul, Nat.reduceSub, Nat.reduceLT, Nat.reduceLeDiff, Int.reduceToNat, Int.reduceLT, Int.reduceLE, Int.reduceEq, Int.reduceAdd, Int.reduceSub, Int.reduceMul, Int.toNat_natCast, reduceCtorEq, decide_true, decide_false, IntWalk.i64_in, IntWalk.u64_in, IntWalk.u8_in, nzP, a0, a2, a5, a6, a7, o2, hcell, hpar, hlev, crP_top]
    exact q2 _ _ _ ⟨_, _, _, _, _, _, _, _, _, _, _, hps.same (by unfold AOk; simp (disch := omega) only [go_sem, ↓IntWalk.iteOmega, IntWalk.toNatUp, Nat.reduceEqDiff, Nat.reduceAdd, Nat.reduceMul, Nat.reduceSub, Nat.reduceLT, Nat.reduceLeDiff, Int.reduceToNat, Int.reduceLT, Int.reduceLE, Int.reduceEq, Int.reduceAdd, Int.reduceSub, Int.reduceMul, Int.toNat_natCast, reduceCtorEq, decide_true, decide_false, IntWalk.i64_in, IntWalk.u64_in, IntWalk.u8_in, a0, a2, a5, a6, a7]) (by omega), .inr (.inr ⟨rfl, rfl, hR⟩)⟩
theorem parse_step {s : List UInt8} {R : Nd × Int × Int} (hs : s.length ≤ 200) {l m : Nat} {a : AAct} {o : Ob} {nx : Nat} {rest : Code} (hf : findLabel xP l = some rest) (hI : PI s R l m a o nx) {k : Nat} {Q : WPost} (qr : ∀ a o nx, RetOK R a o → Q .ret a o nx) : WP (EX md0 XPz) crP k nzP rest a o nx (scopeQ xP (PI s R) m Q) := by
  obtain ⟨at_, U, J, B, g, b, D, pre, vU, vJ, post, hps, hc⟩ := hI
  rcases hc with ⟨rfl, f, rfl, hf1, hf2, hR⟩ | ⟨rfl, rfl, hR⟩ | ⟨rfl, rfl, hR⟩
  · rw [fl1] at hf
    injection hf with hf
    subst hf
    have := lab1 hs hps hf1 hf2 hR (Q := scopeQ xP (PI s R) (f + 2) Q) (k := k) (fun a o nx m' h1 h2 => by rw [scopeQ_goto fl1]; exact ⟨m', h1, h2⟩) (fun a o nx m' h1 h2 => by rw [scopeQ_goto fl0]; exact ⟨m', h1, h2⟩) (fun a o nx m' h1 h2 => by rw [scopeQ_goto fl2]; exact ⟨m', h1, h2⟩) (fun a o nx h => qr a o nx h)
    simp (disch := omega) only [go_sem, ↓IntWalk.iteOmega, IntWalk.toNatUp, Nat.reduceEqDiff, Nat.reduceAdd, Nat.reduceMul, Nat.reduceSub, Nat.reduceLT, Nat.reduceLeDiff, Int.reduceToNat, Int.reduceLT, Int.reduceLE, Int.reduceEq, Int.reduceAdd, Int.reduceSub, Int.reduceMul, Int.toNat_natCast, reduceCtorEq, decide_true, decide_false, IntWalk.i64_in, IntWalk.u64_in, IntWalk.u8_in]
    exact this
  · rw [fl0] at hf
    injection hf with hf
    subst hf
    have := lab0 hps hR (Q := scopeQ xP (PI s R) 1 Q) (k := k) (fun a o nx h2 => by rw [scopeQ_goto fl2]; exact ⟨0, by omega, h2⟩) (fun a o nx h => qr a o nx h)
    simp (disch := omega) only [go_sem, ↓IntWalk.iteOmega, IntWalk.toNatUp, Nat.reduceEqDiff, Nat.reduceAdd, Nat.reduceMul, Nat.reduceSub, Nat.reduceLT, Nat.reduceLeDiff, Int.reduceToNat, Int.reduceLT, Int.reduceLE, Int.reduceEq, Int.reduceAdd, Int.reduceSub, Int.reduceMul, Int.toNat_natCast, reduceCtorEq, decide_true, decide_false, IntWalk.i64_in, IntWalk.u64_in, IntWalk.u8_in]
    exact this
  · rw [fl2] at hf
    injection hf with hf
    subst hf
    have := lab2 hps hR (Q := scopeQ xP (PI s R) 0 Q) (k := k) (fun a o nx h => qr a o nx h)
    simp (disch := omega) only [go_sem, ↓IntWalk.iteOmega, IntWalk.toNatUp, Nat.reduceEqDiff, Nat.reduceAdd, Nat.reduceMul, Nat.reduceSub, Nat.reduceLT, Nat.reduceLeDiff, Int.reduceToNat, Int.reduceLT, Int.reduceLE, Int.reduceEq, Int.reduceAdd, Int.reduceSub, Int.reduceMul, Int.toNat_natCast, reduceCtorEq, decide_true, decide_false, IntWalk.i64_in, IntWalk.u64_in, IntWalk.u8_in]
    exact this
noncomputable def x1 : Code := pathC [1, 0, 0] bP
noncomputable def x3 : Code := pathC [1, 0, 1, 0] bP
noncomputable def x4 : Code := pathC [1, 0, 1, 1, 0] bP
noncomputable def x5 : Code := pathC [1, 0, 1, 1, 1, 0] bP
noncomputable def x0 : Code := pathC [0] bP
theorem xP_seq : xP = .seq x1 (.seq x3 (.seq x4 (.seq x5 (.seq (.label 1) r1)))) := by kernel_rfl
theorem bP_seq : bP = .seq x0 (.scope xP) := by kernel_rfl
theorem parse_large {s : List UInt8} (hs : 200 < s.length) {a : AAct} {o : Ob} {nx : Nat} (a0 : a 0 = .str s) (a2 : a 2 = .ptr (0, 2) (0, 2) 0) (o2 : o (0, 2) = some (.row ⟨29, 1, (0, 2), false, true, nd0⟩)) {Q : WPost} (qr : ∀ a o nx, RetOK (zeroN, 0, 4) a o → Q .ret a o nx) {k : Nat} :
    WP (EX md0 XPz) crP k nzP xP a o nx Q := by
  rw [xP_seq]
  simp only [x1, bP, pathC, Tryd.f18, Option.getD_some]
  simp (disch := omega) only [go_sem, ↓IntWalk.iteOmega, IntWalk.toNatUp, Nat.reduceEqDiff, Nat.reduceAdd, Nat.reduceMul, Nat.reduceSub, Nat.reduceLT, Nat.reduceLeDiff, Int.reduceToNat, Int.reduceLT, Int.reduceLE, Int.reduceEq, Int.reduceAdd, Int.reduceSub, Int.reduceMul, Int.toNat_natCast, reduceCtorEq, decide_true, decide_false, IntWalk.i64_in, IntWalk.u64_in, IntWalk.u8_in, nzP, a0, a2, o2]
  exact qr _ _ _ ⟨by simp (disch := omega) only [go_sem, ↓IntWalk.iteOmega, IntWalk.toNatUp, Nat.reduceEqDiff, Nat.reduceAdd, Nat.reduceMul, Nat.reduceSub, Nat.reduceLT, Nat.reduceLeDiff, Int.reduceToNat, Int.reduceLT, Int.reduceLE, Int.reduceEq, Int.reduceAdd, Int.reduceSub, Int.reduceMul, Int.toNat_natCast, reduceCtorEq, decide_true, decide_false, IntWalk.i64_in, IntWalk.u64_in, IntWalk.u8_in, a2], ⟨nd0, by simp (disch := omega) only [go_sem, ↓IntWalk.iteOmega, IntWalk.toNatUp, Nat.reduceEqDiff, Nat.reduceAdd, Nat.reduceMul, Nat.reduceSub, Nat.reduceLT, Nat.reduceLeDiff, Int.reduceToNat, Int.reduceLT, Int.reduceLE, Int.reduceEq, Int.reduceAdd, Int.reduceSub, Int.reduceMul, Int.toNat_natCast, reduceCtorEq, decide_true, decide_false, IntWalk.i64_in, IntWalk.u64_in, IntWalk.u8_in], rfl, zero_view⟩, by simp (disch := omega) only [go_sem, ↓IntWalk.iteOmega, IntWalk.toNatUp, Nat.reduceEqDiff, Nat.reduceAdd, Nat.reduceMul, Nat.reduceSub, Nat.reduceLT, Nat.reduceLeDiff, Int.reduceToNat, Int.reduceLT, Int.reduceLE, Int.reduceEq, Int.reduceAdd, Int.reduceSub, Int.reduceMul, Int.toNat_natCast, reduceCtorEq, decide_true, decide_false, IntWalk.i64_in, IntWalk.u64_in, IntWalk.u8_in], by simp (disch := omega) only [go_sem, ↓IntWalk.iteOmega, IntWalk.toNatUp, Nat.reduceEqDiff, Nat.reduceAdd, Nat.reduceMul, Nat.reduceSub, Nat.reduceLT, Nat.reduceLeDiff, Int.reduceToNat, Int.reduceLT, Int.reduceLE, Int.reduceEq, Int.reduceAdd, Int.reduceSub, Int.reduceMul, Int.toNat_natCast, reduceCtorEq, decide_true, decide_false, IntWalk.i64_in, IntWalk.u64_in, IntWalk.u8_in]⟩
theorem parse_start {s : List UInt8} (hs : s.length ≤ 200) {a : AAct} {o : Ob} (a0 : a 0 = .str s) (a2 : a 2 = .ptr (0, 2) (0, 2) 0) (o2 : o (0, 2) = some (.row ⟨29, 1, (0, 2), false, true, nd0⟩)) {Q : WPost} {k : Nat}
    (hq : ∀ a o nx, PS s a o nx 0 [] [] [] (2, 21) 3 0 [] .nil .nil [] → WP (EX md0 XPz) crP k nzP r1 a o nx Q) :
    WP (EX md0 XPz) crP k nzP xP a o 1 Q := by
  rw [xP_seq]
  simp only [x1, x3, x4, x5, bP, pathC, Tryd.f18, Option.getD_some]
  simp (disch := omega) only [go_sem, ↓IntWalk.iteOmega, IntWalk.toNatUp, Nat.reduceEqDiff, Nat.reduceAdd, Nat.reduceMul, Nat.reduceSub, Nat.reduceLT, Nat.reduceLeDiff, Int.reduceToNat, Int.reduceLT, Int.reduceLE, Int.reduceEq, Int.reduceAdd, Int.reduceSub, Int.reduceMul, Int.toNat_natCast, reduceCtorEq, decide_true, decide_false, IntWalk.i64_in, IntWalk.u64_in, IntWalk.u8_in, nzP, a0, a2, o2]
  exact hq _ _ _ ⟨by simp (disch := omega) only [go_sem, ↓IntWalk.iteOmega, IntWalk.toNatUp, Nat.reduceEqDiff, Nat.reduceAdd, Nat.reduceMul, Nat.reduceSub, Nat.reduceLT, Nat.reduceLeDiff, Int.reduceToNat, Int.reduceLT, Int.reduceLE, Int.reduceEq, Int.reduceAdd, Int.reduceSub, Int.reduceMul, Int.toNat_natCast, reduceCtorEq, decide_true, decide_false, IntWalk.i64_in, IntWalk.u64_in, IntWalk.u8_in, a0], by simp (disch := omega) only [go_sem, ↓IntWalk.iteOmega, IntWalk.toNatUp, Nat.reduceEqDiff, Nat.reduceAdd, Nat.reduceMul, Nat.reduceSub, Nat.reduceLT, Nat.reduceLeDiff, Int.reduceToNat, Int.reduceLT, Int.reduceLE, Int.reduceEq, Int.reduceAdd, Int.reduceSub, Int.reduceMul, Int.toNat_natCast, reduceCtorEq, decide_true, decide_false, IntWalk.i64_in, IntWalk.u64_in, IntWalk.u8_in, a2], by simp (disch := omega) only [go_sem, ↓IntWalk.iteOmega, IntWalk.toNatUp, Nat.reduceEqDiff, Nat.reduceAdd, Nat.reduceMul, Nat.reduceSub, Nat.reduceLT, Nat.reduceLeDiff, Int.reduceToNat, Int.reduceLT, Int.reduceLE, Int.reduceEq, Int.reduceAdd, Int.reduceSub, Int.reduceMul, Int.toNat_natCast, reduceCtorEq, decide_true, decide_false, IntWalk.i64_in, IntWalk.u64_in, IntWalk.u8_in], by simp (disch := omega) only [go_sem, ↓IntWalk.iteOmega, IntWalk.toNatUp, Nat.reduceEqDiff, Nat.reduceAdd, Nat.reduceMul, Nat.reduceSub, Nat.reduceLT, Nat.reduceLeDiff, Int.reduceToNat, Int.reduceLT, Int.reduceLE, Int.reduceEq, Int.reduceAdd, Int.reduceSub, Int.reduceMul, Int.toNat_natCast, reduceCtorEq, decide_true, decide_false, IntWalk.i64_in, IntWalk.u64_in, IntWalk.u8_in], by simp (disch := omega) only [go_sem, ↓IntWalk.iteOmega, IntWalk.toNatUp, Nat.reduceEqDiff, Nat.reduceAdd, Nat.reduceMul, Nat.reduceSub, Nat.reduceLT, Nat.reduceLeDiff, Int.reduceToNat, Int.reduceLT, Int.reduceLE, Int.reduceEq, Int.reduceAdd, Int.reduceSub, Int.reduceMul, Int.toNat_natCast, reduceCtorEq, decide_true, decide_false, IntWalk.i64_in, IntWalk.u64_in, IntWalk.u8_in], by simp (disch := omega) only [go_sem, ↓IntWalk.iteOmega, IntWalk.toNatUp, Nat.reduceEqDiff, Nat.reduceAdd, Nat.reduceMul, Nat.reduceSub, Nat.reduceLT, Nat.reduceLeDiff, Int.reduceToNat, Int.reduceLT, Int.reduceLE, Int.reduceEq, Int.reduceAdd, Int.reduceSub, Int.reduceMul, Int.toNat_natCast, reduceCtorEq, decide_true, decide_false, IntWalk.i64_in, IntWalk.u64_in, IntWalk.u8_in, o2], ⟨by omega, by simp (disch := omega) only [go_sem, ↓IntWalk.iteOmega, IntWalk.toNatUp, Nat.reduceEqDiff, Nat.reduceAdd, Nat.reduceMul, Nat.reduceSub, Nat.reduceLT, Nat.reduceLeDiff, Int.reduceToNat, Int.reduceLT, Int.reduceLE, Int.reduceEq, Int.reduceAdd, Int.reduceSub, Int.reduceMul, Int.toNat_natCast, reduceCtorEq, decide_true, decide_false, IntWalk.i64_in, IntWalk.u64_in, IntWalk.u8_in], by simp (disch := omega) only [go_sem, ↓IntWalk.iteOmega, IntWalk.toNatUp, Nat.reduceEqDiff, Nat.reduceAdd, Nat.reduceMul, Nat.reduceSub, Nat.reduceLT, Nat.reduceLeDiff, Int.reduceToNat, Int.reduceLT, Int.reduceLE, Int.reduceEq, Int.reduceAdd, Int.reduceSub, Int.reduceMul, Int.toNat_natCast, reduceCtorEq, decide_true, decide_false, IntWalk.i64_in, IntWalk.u64_in, IntWalk.u8_in], by simp (disch := omega) only [go_sem, ↓IntWalk.iteOmega, IntWalk.toNatUp, Nat.reduceEqDiff, Nat.reduceAdd, Nat.reduceMul, Nat.reduceSub, Nat.reduceLT, Nat.reduceLeDiff, Int.reduceToNat, Int.reduceLT, Int.reduceLE, Int.reduceEq, Int.reduceAdd, Int.reduceSub, Int.reduceMul, Int.toNat_natCast, reduceCtorEq, decide_true, decide_false, IntWalk.i64_in, IntWalk.u64_in, IntWalk.u8_in], rfl, by show (0 : Nat) ≤ 30; omega⟩, .nil 3, by omega, by omega, ⟨.inl ⟨rfl, rfl⟩, .inl ⟨rfl, rfl⟩⟩, by omega, by simp, by simp, by omega, by omega⟩
theorem parse_ok (s : List UInt8) : Ok Tryd.prog 18 [.str s] (.tup [nodeV (parseN s).1, .int .i64 (parseN s).2.1, .int .i64 (parseN s).2.2]) := by
  refine ok_of_WP (E := EX md0 XPz) XPz_ok crP_ok mixed (k := 300) Tryd.func18 (lookP _) rfl ?_
  show WP _ _ _ _ bP _ _ _ _
  rw [bP_seq]
  simp only [x0, bP, pathC, Tryd.f18, Option.getD_some]
  simp (disch := omega) only [go_sem, ↓IntWalk.iteOmega, IntWalk.toNatUp, Nat.reduceEqDiff, Nat.reduceAdd, Nat.reduceMul, Nat.reduceSub, Nat.reduceLT, Nat.reduceLeDiff, Int.reduceToNat, Int.reduceLT, Int.reduceLE, Int.reduceEq, Int.reduceAdd, Int.reduceSub, Int.reduceMul, Int.toNat_natCast, reduceCtorEq, decide_true, decide_false, IntWalk.i64_in, IntWalk.u64_in, IntWalk.u8_in, nzP]
  have hret : ∀ (a : AAct) (o : Ob) (nx : Nat), RetOK (parseN s) a o → (Out.ret = Out.normal ∨ Out.ret = Out.ret) ∧ wO (consO (aLoad Tryd.prog 29 (a 2) { o := o, nx := nx }) (some [a 3, a 4])) fun vs => A.view o 1012 (tup1 vs) = .tup [nodeV (parseN s).1, .int .i64 (parseN s).2.1, .int .i64 (parseN s).2.2] := by
    rintro a o nx ⟨b2, ⟨cs, b3, b4, b5⟩, b6, b7⟩
    refine ⟨.inr rfl, ?_⟩
    have htk : cs.take 5 = cs := take_len b4
    have hv := b5 o 1010
    simp (disch := omega) only [go_sem, ↓IntWalk.iteOmega, IntWalk.toNatUp, Nat.reduceEqDiff, Nat.reduceAdd, Nat.reduceMul, Nat.reduceSub, Nat.reduceLT, Nat.reduceLeDiff, Int.reduceToNat, Int.reduceLT, Int.reduceLE, Int.reduceEq, Int.reduceAdd, Int.reduceSub, Int.reduceMul, Int.toNat_natCast, reduceCtorEq, decide_true, decide_false, IntWalk.i64_in, IntWalk.u64_in, IntWalk.u8_in, b2, b3, b6, b7, b4, htk, hv]
  by_cases hs : 200 < s.length
  · have hp : parseN s = (zeroN, 0, 4) := if_pos hs
    refine WP_scope (fun _ _ _ _ _ => False) 0 (by omega) ?_ (fun l m a o nx rest hf hI => hI.elim)
    exact parse_large hs (by simp (disch := omega) only [go_sem, ↓IntWalk.iteOmega, IntWalk.toNatUp, Nat.reduceEqDiff, Nat.reduceAdd, Nat.reduceMul, Nat.reduceSub, Nat.reduceLT, Nat.reduceLeDiff, Int.reduceToNat, Int.reduceLT, Int.reduceLE, Int.reduceEq, Int.reduceAdd, Int.reduceSub, Int.reduceMul, Int.toNat_natCast, reduceCtorEq, decide_true, decide_false, IntWalk.i64_in, IntWalk.u64_in, IntWalk.u8_in]) (by simp (disch := omega) only [go_sem, ↓IntWalk.iteOmega, IntWalk.toNatUp, Nat.reduceEqDiff, Nat.reduceAdd, Nat.reduceMul, Nat.reduceSub, Nat.reduceLT, Nat.reduceLeDiff, Int.reduceToNat, Int.reduceLT, Int.reduceLE, Int.reduceEq, Int.reduceAdd, Int.reduceSub, Int.reduceMul, Int.toNat_natCast, reduceCtorEq, decide_true, decide_false, IntWalk.i64_in, IntWalk.u64_in, IntWalk.u8_in]) (by simp (disch := omega) only [go_sem, ↓IntWalk.iteOmega, IntWalk.toNatUp, Nat.reduceEqDiff, Nat.reduceAdd, Nat.reduceMul, Nat.reduceSub, Nat.reduceLT, Nat.reduceLeDiff, Int.reduceToNat, Int.reduceLT, Int.reduceLE, Int.reduceEq, Int.reduceAdd, Int.reduceSub, Int.reduceMul, Int.toNat_natCast, reduceCtorEq, decide_true, decide_false, IntWalk.i64_in, IntWalk.u64_in, IntWalk.u8_in]) (fun a o nx h => hret a o nx (by rw [hp]; exact h))
  · have hs' : s.length ≤ 200 := by omega
    have hp : pGo s (s.length + 1) 0 [] [] [] = parseN s := (if_neg hs).symm
    refine WP_scope (PI s (parseN s)) (s.length + 1 + 2) (by omega) ?_ (fun l m a o nx rest hf hI => parse_step hs' hf hI hret)
    refine parse_start hs' (by simp (disch := omega) only [go_sem, ↓IntWalk.iteOmega, IntWalk.toNatUp, Nat.reduceEqDiff, Nat.reduceAdd, Nat.reduceMul, Nat.reduceSub, Nat.reduceLT, Nat.reduceLeDiff, Int.reduceToNat, Int.reduceLT, Int.reduceLE, Int.reduceEq, Int.reduceAdd, Int.reduceSub, Int.reduceMul, Int.toNat_natCast, reduceCtorEq, decide_true, decide_false, IntWalk.i64_in, IntWalk.u64_in, IntWalk.u8_in]) (by simp (disch := omega) only [go_sem, ↓IntWalk.iteOmega, IntWalk.toNatUp, Nat.reduceEqDiff, Nat.reduceAdd, Nat.reduceMul, Nat.reduceSub, Nat.reduceLT, Nat.reduceLeDiff, Int.reduceToNat, Int.reduceLT, Int.reduceLE, Int.reduceEq, Int.reduceAdd, Int.reduceSub, Int.reduceMul, Int.toNat_natCast, reduceCtorEq, decide_true, decide_false, IntWalk.i64_in, IntWalk.u64_in, IntWalk.u8_in]) (by simp (disch := omega) only [go_sem, ↓IntWalk.iteOmega, IntWalk.toNatUp, Nat.reduceEqDiff, Nat.reduceAdd, Nat.reduceMul, Nat.reduceSub, Nat.reduceLT, Nat.reduceLeDiff, Int.reduceToNat, Int.reduceLT, Int.reduceLE, Int.reduceEq, Int.reduceAdd, Int.reduceSub, Int.reduceMul, Int.toNat_natCast, reduceCtorEq, decide_true, decide_false, IntWalk.i64_in, IntWalk.u64_in, IntWalk.u8_in]) (fun a o nx h => ?_)
    exact lab1 hs' h (by omega) (by omega) hp (fun a o nx m' h1 h2 => by rw [scopeQ_goto fl1]; exact ⟨m', h1, h2⟩) (fun a o nx m' h1 h2 => by rw [scopeQ_goto fl0]; exact ⟨m', h1, h2⟩) (fun a o nx m' h1 h2 => by rw [scopeQ_goto fl2]; exact ⟨m', h1, h2⟩) hret
end Go.Proofs.YtmcbfbpdfbcakaaDoor.A
/- Long expressions: what Parse tells of them. -/
namespace Go.Proofs.YtmcbfbpdfbcakaaDoor.A
open Go
set_option maxRecDepth 20000
def RParse (args : List AV) (r : AV) : Prop := ∃ s, args = [.str s] ∧ r = .tup [nodeV (parseN s).1, .int .i64 (parseN s).2.1, .int .i64 (parseN s).2.2]
theorem RParse_ok (args r) (h : RParse args r) : Ok Tryd.prog 18 args r := by
  obtain ⟨s, rfl, rfl⟩ := h
  exact parse_ok s
theorem RParse_fn : Fun1 RParse := by
  rintro args r r' ⟨s, rfl, rfl⟩ ⟨s', h, rfl⟩
  simp only [List.cons.injEq, AV.str.injEq, and_true] at h
  rw [h]
/-- The table of contracts: known, Parse of whatever text, within. -/
noncomputable def XLP : FuncId → List AV → Option AV := tabLook [(13, tRel RKn4), (18, tRel RParse), (17, tRel RW)]
theorem XLP_ok : CPSound Tryd.prog XLP := tab_cons (tab_cons (tab_cons (tab_nil _) (tRel_ok within2_ok)) (tRel_ok RParse_ok)) (tRel_ok RKn4_ok)
theorem XLP_known : XLP 13 [] = some (.bool true) := tRel_eq (R := RKn4) RKn4_fn ⟨rfl, rfl⟩
theorem XLP_within (a n : Int) (h1 : 0 < n) (h2 : n ≤ 1000000) : XLP 17 [.int .i64 a, .int .i64 n] = some (.int .i64 (a % n)) := rw_eq h1 h2
theorem XLP_parse (s : List UInt8) : XLP 18 [.str s] = some (.tup [nodeV (parseN s).1, .int .i64 (parseN s).2.1, .int .i64 (parseN s).2.2]) := tRel_eq RParse_fn ⟨s, rfl, rfl⟩
def lenN : Nd → Nat
  | .mk _ _ _ _ l => l.length
def longS (k : Nat) (bad : Bool) : List UInt8 := if bad then List.replicate (k - 1) 119 ++ [120] else List.replicate k 119
def longE (k : Nat) (bad : Bool) : Int × Int := if 200 < k then (0, 4) else if bad then ((k : Int) - 1, 3) else (0, 0)
def longC (k : Nat) (bad : Bool) : Bool := decide ((parseN (longS k bad)).2 = longE k bad) && (decide (200 < k) || bad || (decide (kindN (parseN (longS k bad)).1 = 4) && decide (lenN (parseN (longS k bad)).1 = k)))
theorem long_all : (List.range 20).all (fun q => longC (190 + q) true && longC (190 + q) false) = true := by decide +kernel
theorem long_at {k : Nat} (h1 : 190 ≤ k) (h2 : k < 210) (bad : Bool) : longC k bad = true := by
  have h := List.all_eq_true.1 long_all (k - 190) (List.mem_range.2 (by omega))
  rw [Bool.and_eq_true] at h
  have e : 190 + (k - 190) = k := by omega
  rw [e] at h
  cases bad with
  | true => exact h.1
  | false => exact h.2
end Go.Proofs.YtmcbfbpdfbcakaaDoor.A
/- Sets: their texts, what Parse tells of them. -/
namespace Go.Proofs.YtmcbfbpdfbcakaaDoor.A
open Go
set_option maxRecDepth 20000
def signB (k : Nat) : UInt8 := signs5.getD k 0
/-- A set's text. -/
def setS (s : Nat) : List UInt8 :=
  let l := ((List.range 5).filter fun i => s / 2 ^ i % 2 = 1).map signB
  if s = 31 then [46] else if l.length = 1 then l else 91 :: l ++ [93]
noncomputable def XLS : FuncId → List AV → Option AV := tabLook [(13, tRel RKn4), (18, tRel RParse), (25, (calls E4 1000).1 25), (26, (calls E4 1000).1 26), (17, tRel RW)]
theorem XLS_ok : CPSound Tryd.prog XLS := tab_cons (tab_cons (tab_cons (tab_cons (tab_cons (tab_nil _) (tRel_ok within2_ok)) (fun args r h => ok_calls (E := E4) ext4_ok mixed h)) (fun args r h => ok_calls (E := E4) ext4_ok mixed h)) (tRel_ok RParse_ok)) (tRel_ok RKn4_ok)
theorem XLS_known : XLS 13 [] = some (.bool true) := tRel_eq (R := RKn4) RKn4_fn ⟨rfl, rfl⟩
theorem XLS_within (a n : Int) (h1 : 0 < n) (h2 : n ≤ 1000000) : XLS 17 [.int .i64 a, .int .i64 n] = some (.int .i64 (a % n)) := rw_eq h1 h2
theorem XLS_parse (s : List UInt8) : XLS 18 [.str s] = some (.tup [nodeV (parseN s).1, .int .i64 (parseN s).2.1, .int .i64 (parseN s).2.2]) := tRel_eq RParse_fn ⟨s, rfl, rfl⟩
abbrev setV (s : Int) : AV := .agg [.int .i64 1, .int .i64 s, .int .i64 0, .int .i64 0, .sl 0 []]
theorem text_all : ((List.range 31).map fun q => XLS 25 [setV ((q + 1 : Nat) : Int)]) = (List.range 31).map fun q => some (.str (setS (q + 1))) := by kernel_rfl
theorem size_all : ((List.range 31).map fun q => XLS 26 [setV ((q + 1 : Nat) : Int)]) = (List.range 31).map fun _ => some (.int .i64 1) := by kernel_rfl
theorem parse_all : ((List.range 31).map fun q => parseN (setS (q + 1))) = (List.range 31).map fun q => (.mk 1 ((q + 1 : Nat) : Int) 0 0 [], 0, 0) := by kernel_rfl
theorem map_at {α : Type} {f g : Nat → α} {n : Nat} (h : (List.range n).map f = (List.range n).map g) {q : Nat} (hq : q < n) : f q = g q := List.map_inj_left.1 h q (List.mem_range.2 hq)
theorem text_at {s : Nat} (h0 : 1 ≤ s) (h1 : s ≤ 31) : XLS 25 [setV (s : Int)] = some (.str (setS s)) := by
  have := map_at text_all (q := s - 1) (by omega)
  rwa [show s - 1 + 1 = s by omega] at this
theorem size_at {s : Nat} (h0 : 1 ≤ s) (h1 : s ≤ 31) : XLS 26 [setV (s : Int)] = some (.int .i64 1) := by
  have := map_at size_all (q := s - 1) (by omega)
  rwa [show s - 1 + 1 = s by omega] at this
theorem parse_at {s : Nat} (h0 : 1 ≤ s) (h1 : s ≤ 31) : parseN (setS s) = (.mk 1 (s : Int) 0 0 [], 0, 0) := by
  have := map_at parse_all (q := s - 1) (by omega)
  rwa [show s - 1 + 1 = s by omega] at this
/-! ### a class of signs -/
def orK (x : Int) (k : Nat) : Int := orN x k
def sumK (ks : List Nat) : Int := ks.foldl orK 0
theorem orN_pos {x i : Int} (h0 : 0 ≤ x) (h1 : x ≤ 31) (h2 : 0 ≤ i) (h3 : i ≤ 4) : 0 < orN x i := by
  have key : ∀ (a : Fin 32) (b : Fin 5), 0 < orN (a.1 : Int) (b.1 : Int) := by decide +kernel
  have := key ⟨x.toNat, by omega⟩ ⟨i.toNat, by omega⟩
  simp only [Int.toNat_of_nonneg h0, Int.toNat_of_nonneg h2] at this
  exact this
theorem fold_in : ∀ (ks : List Nat) (x : Int), (∀ k ∈ ks, k < 5) → 0 ≤ x → x ≤ 31 → 0 ≤ ks.foldl orK x ∧ ks.foldl orK x ≤ 31 ∧ (0 < x ∨ ks ≠ [] → 0 < ks.foldl orK x)
  | [], x, _, h0, h1 => ⟨h0, h1, fun h => h.elim id (fun e => absurd rfl e)⟩
  | k :: ks, x, hk, h0, h1 => by
    have hk5 := hk k (List.mem_cons_self ..)
    have h2 := orN_in h0 h1 (Int.natCast_nonneg k) (by omega)
    have h3 := orN_pos h0 h1 (Int.natCast_nonneg k) (by omega)
    have := fold_in ks (orN x k) (fun k' h => hk k' (List.mem_cons_of_mem _ h)) h2.1 h2.2
    exact ⟨this.1, this.2.1, fun _ => this.2.2 (.inl h3)⟩
theorem sign_signB {k : Nat} (h : k < 5) : signN ((signB k).toNat : Int) = k := by
  have : ∀ k : Fin 5, signN ((signB k.1).toNat : Int) = k.1 := by decide +kernel
  exact this ⟨k, h⟩
theorem byteN_app (p : List UInt8) (c : UInt8) (r : List UInt8) : byteN (p ++ c :: r) p.length = c.toNat := by
  rw [byteN, Int.toNat_natCast, List.getD_eq_getElem?_getD, List.getElem?_append_right (Nat.le_refl _), Nat.sub_self]
  rfl
theorem class_run : ∀ (ks : List Nat) (p : List UInt8) (out : Int), (∀ k ∈ ks, k < 5) → classF (p ++ ks.map signB ++ [93]) (ks.length + 1) p.length out = (ks.foldl orK out, decide (0 < ks.foldl orK out), (p.length : Int) + ks.length)
  | [], p, out, _ => by
    have e : p ++ List.map signB [] ++ [93] = p ++ 93 :: [] := by simp
    rw [e, List.length_nil, classF, byteN_app]
    have h1 : signN (((93 : UInt8).toNat : Nat) : Int) < 0 := by decide
    rw [if_pos h1]
    simp
    congr
  | k :: ks, p, out, hk => by
    have hk5 := hk k (List.mem_cons_self ..)
    have e : p ++ List.map signB (k :: ks) ++ [93] = p ++ signB k :: (ks.map signB ++ [93]) := by simp
    rw [e, List.length_cons, classF, byteN_app, sign_signB hk5, if_neg (by omega)]
    have ih := class_run ks (p ++ [signB k]) (orN out k) (fun k' h => hk k' (List.mem_cons_of_mem _ h))
    have e2 : p ++ signB k :: (ks.map signB ++ [93]) = p ++ [signB k] ++ ks.map signB ++ [93] := by simp
    have e3 : (p.length : Int) + 1 = ((p ++ [signB k]).length : Nat) := by rw [List.length_append]; rfl
    rw [e2, e3, ih, List.length_append, List.length_singleton]
    have e4 : orK out k = orN out k := rfl
    rw [List.foldl_cons, e4]
    simp only [Prod.mk.injEq, true_and]
    omega
def clsS (ks : List Nat) : List UInt8 := 91 :: ks.map signB
theorem parse_cls (ks : List Nat) (hk : ∀ k ∈ ks, k < 5) (hl : ks.length ≤ 20) : (ks = [] → (parseN (clsS ks ++ [93])).2.2 = 3) ∧ (ks ≠ [] → parseN (clsS ks ++ [93]) = (.mk 1 (sumK ks) 0 0 [], 0, 0)) := by
  have hlen : (clsS ks ++ [93]).length = ks.length + 2 := by rw [List.length_append, clsS, List.length_cons, List.length_map]; rfl
  have hrun := class_run ks [91] 0 hk
  have hb : byteN (clsS ks ++ [93]) 0 = 91 := rfl
  have hf := fold_in ks 0 hk (by omega) (by omega)
  have e0 : [91] ++ ks.map signB ++ [93] = clsS ks ++ [93] := rfl
  rw [e0] at hrun
  rw [parseN, if_neg (by omega), hlen, pGo, hlen, if_neg (by omega), hb, if_neg (by decide), if_pos rfl]
  have e1 : ks.length + 2 - ((0 : Int) + 1).toNat = ks.length + 1 := by show ks.length + 2 - 1 = _; omega
  have e2 : (0 : Int) + 1 = (([91] : List UInt8).length : Nat) := rfl
  rw [e1, e2, hrun]
  constructor
  · rintro rfl
    rfl
  · intro hne
    have hpos := hf.2.2 (.inr hne)
    simp only [hpos, decide_true]
    rw [if_neg (by decide), pGo, hlen, if_pos (by show _ ≤ (([91] : List UInt8).length : Int) + ks.length + 1; show _ ≤ (1 : Int) + _ + 1; omega), if_neg (by simp)]
    rfl
end Go.Proofs.YtmcbfbpdfbcakaaDoor.A
/- Whether an expression is right. -/
namespace Go.Proofs.YtmcbfbpdfbcakaaDoor.A
open Go
set_option maxRecDepth 20000
def countN (k : Int) (n : Nat) : Bool := if k = 1 ∨ k = 2 ∨ k = 3 then n == 0 else if k = 4 ∨ k = 5 then decide (2 ≤ n) else if k = 6 ∨ k = 7 ∨ k = 8 ∨ k = 9 then n == 1 else false
def headN (k s lo hi : Int) (n : Nat) : Bool := countN k n && decide (k = 1 ∨ s = 0) && decide (k = 9 ∨ (lo = 0 ∧ hi = 0)) && decide (k = 1 → 1 ≤ s ∧ s ≤ 31) && decide (0 ≤ lo ∧ lo ≤ hi ∧ hi ≤ 9)
mutual
def rightN : Nd → Bool
  | .mk k s lo hi l => headN k s lo hi l.length && rightNs l
def rightNs : List Nd → Bool
  | [] => true
  | x :: l => rightN x && rightNs l
end
def RCount (args : List AV) (r : AV) : Prop := ∃ (k : Int) (n : Nat), args = [.int .i64 k, .int .i64 n] ∧ r = .bool (countN k n)
theorem RCount_fn : Fun1 RCount := by
  rintro args r r' ⟨k, n, rfl, rfl⟩ ⟨k', n', h, rfl⟩
  simp only [List.cons.injEq, AV.int.injEq, and_true, true_and] at h
  have : n = n' := by omega
  rw [h.1, this]
theorem lookCount (X) : lookedAt (EX md0 X) (fun _ => none) 2 Tryd.f44 = true := by kernel_rfl
theorem count_ok (args r) (h : RCount args r) : Ok Tryd.prog 44 args r := by
  obtain ⟨k, n, rfl, rfl⟩ := h
  refine ok_of_WP (E := EX md0 (fun _ _ => none)) (cp_none _) (noR_ok _) mixed (k := 0) Tryd.func44 (lookCount _) rfl ?_
  have e0 : (n == 0) = decide ((n : Int) = 0) := by rw [Bool.eq_iff_iff]; simp
  have e1 : (n == 1) = decide ((n : Int) = 1) := by rw [Bool.eq_iff_iff]; simp; omega
  have e2 : decide (2 ≤ n) = decide ((2 : Int) ≤ n) := by rw [Bool.eq_iff_iff]; simp; omega
  simp only [Tryd.f44, Option.getD_some]
  unfold countN
  rw [e0, e1, e2]
  by_cases c1 : k = 1
  · subst c1; simp (disch := omega) only [go_sem, ↓IntWalk.iteOmega, IntWalk.toNatUp, Nat.reduceEqDiff, Nat.reduceAdd, Nat.reduceMul, Nat.reduceSub, Nat.reduceLT, Nat.reduceLeDiff, Int.reduceToNat, Int.reduceLT, Int.reduceLE, Int.reduceEq, Int.reduceAdd, Int.reduceSub, Int.reduceMul, Int.toNat_natCast, reduceCtorEq, decide_true, decide_false, IntWalk.i64_in, IntWalk.u64_in, IntWalk.u8_in]
  by_cases c2 : k = 2
  · subst c2; simp (disch := omega) only [go_sem, ↓IntWalk.iteOmega, IntWalk.toNatUp, Nat.reduceEqDiff, Nat.reduceAdd, Nat.reduceMul, Nat.reduceSub, Nat.reduceLT, Nat.reduceLeDiff, Int.reduceToNat, Int.reduceLT, Int.reduceLE, Int.reduceEq, Int.reduceAdd, Int.reduceSub, Int.reduceMul, Int.toNat_natCast, reduceCtorEq, decide_true, decide_false, IntWalk.i64_in, IntWalk.u64_in, IntWalk.u8_in]
  by_cases c3 : k = 3
  · subst c3; simp (disch := omega) only [go_sem, ↓IntWalk.iteOmega, IntWalk.toNatUp, Nat.reduceEqDiff, Nat.reduceAdd, Nat.reduceMul, Nat.reduceSub, Nat.reduceLT, Nat.reduceLeDiff, Int.reduceToNat, Int.reduceLT, Int.reduceLE, Int.reduceEq, Int.reduceAdd, Int.reduceSub, Int.reduceMul, Int.toNat_natCast, reduceCtorEq, decide_true, decide_false, IntWalk.i64_in, IntWalk.u64_in, IntWalk.u8_in]
  by_cases c4 : k = 4
  · subst c4; simp (disch := omega) only [go_sem, ↓IntWalk.iteOmega, IntWalk.toNatUp, Nat.reduceEqDiff, Nat.reduceAdd, Nat.reduceMul, Nat.reduceSub, Nat.reduceLT, Nat.reduceLeDiff, Int.reduceToNat, Int.reduceLT, Int.reduceLE, Int.reduceEq, Int.reduceAdd, Int.reduceSub, Int.reduceMul, Int.toNat_natCast, reduceCtorEq, decide_true, decide_false, IntWalk.i64_in, IntWalk.u64_in, IntWalk.u8_in]
  by_cases c5 : k = 5
  · subst c5; simp (disch := omega) only [go_sem, ↓IntWalk.iteOmega, IntWalk.toNatUp, Nat.reduceEqDiff, Nat.reduceAdd, Nat.reduceMul, Nat.reduceSub, Nat.reduceLT, Nat.reduceLeDiff, Int.reduceToNat, Int.reduceLT, Int.reduceLE, Int.reduceEq, Int.reduceAdd, Int.reduceSub, Int.reduceMul, Int.toNat_natCast, reduceCtorEq, decide_true, decide_false, IntWalk.i64_in, IntWalk.u64_in, IntWalk.u8_in]
  by_cases c6 : k = 6
  · subst c6; simp (disch := omega) only [go_sem, ↓IntWalk.iteOmega, IntWalk.toNatUp, Nat.reduceEqDiff, Nat.reduceAdd, Nat.reduceMul, Nat.reduceSub, Nat.reduceLT, Nat.reduceLeDiff, Int.reduceToNat, Int.reduceLT, Int.reduceLE, Int.reduceEq, Int.reduceAdd, Int.reduceSub, Int.reduceMul, Int.toNat_natCast, reduceCtorEq, decide_true, decide_false, IntWalk.i64_in, IntWalk.u64_in, IntWalk.u8_in]
  by_cases c7 : k = 7
  · subst c7; simp (disch := omega) only [go_sem, ↓IntWalk.iteOmega, IntWalk.toNatUp, Nat.reduceEqDiff, Nat.reduceAdd, Nat.reduceMul, Nat.reduceSub, Nat.reduceLT, Nat.reduceLeDiff, Int.reduceToNat, Int.reduceLT, Int.reduceLE, Int.reduceEq, Int.reduceAdd, Int.reduceSub, Int.reduceMul, Int.toNat_natCast, reduceCtorEq, decide_true, decide_false, IntWalk.i64_in, IntWalk.u64_in, IntWalk.u8_in]
  by_cases c8 : k = 8
  · subst c8; simp (disch := omega) only [go_sem, ↓IntWalk.iteOmega, IntWalk.toNatUp, Nat.reduceEqDiff, Nat.reduceAdd, Nat.reduceMul, Nat.reduceSub, Nat.reduceLT, Nat.reduceLeDiff, Int.reduceToNat, Int.reduceLT, Int.reduceLE, Int.reduceEq, Int.reduceAdd, Int.reduceSub, Int.reduceMul, Int.toNat_natCast, reduceCtorEq, decide_true, decide_false, IntWalk.i64_in, IntWalk.u64_in, IntWalk.u8_in]
  by_cases c9 : k = 9
  · subst c9; simp (disch := omega) only [go_sem, ↓IntWalk.iteOmega, IntWalk.toNatUp, Nat.reduceEqDiff, Nat.reduceAdd, Nat.reduceMul, Nat.reduceSub, Nat.reduceLT, Nat.reduceLeDiff, Int.reduceToNat, Int.reduceLT, Int.reduceLE, Int.reduceEq, Int.reduceAdd, Int.reduceSub, Int.reduceMul, Int.toNat_natCast, reduceCtorEq, decide_true, decide_false, IntWalk.i64_in, IntWalk.u64_in, IntWalk.u8_in]
  simp only [c1, c2, c3, c4, c5, c6, c7, c8, c9, false_or, or_self, if_false]
  simp (disch := omega) only [go_sem, ↓IntWalk.iteOmega, IntWalk.toNatUp, Nat.reduceEqDiff, Nat.reduceAdd, Nat.reduceMul, Nat.reduceSub, Nat.reduceLT, Nat.reduceLeDiff, Int.reduceToNat, Int.reduceLT, Int.reduceLE, Int.reduceEq, Int.reduceAdd, Int.reduceSub, Int.reduceMul, Int.toNat_natCast, reduceCtorEq, decide_true, decide_false, IntWalk.i64_in, IntWalk.u64_in, IntWalk.u8_in, c1, c2, c3, c4, c5, c6, c7, c8, c9]
/-- What a node's own numbers may be: three ways that are right, ten that are not. -/
theorem headN_cases (k s lo hi : Int) : ((k = 1 ∧ lo = 0 ∧ hi = 0 ∧ 1 ≤ s ∧ s ≤ 31) ∨ (k = 9 ∧ s = 0 ∧ 0 ≤ lo ∧ lo ≤ hi ∧ hi ≤ 9) ∨ (k ≠ 1 ∧ k ≠ 9 ∧ s = 0 ∧ lo = 0 ∧ hi = 0)) ∨
    (k ≠ 1 ∧ s ≠ 0) ∨ (k = 1 ∧ lo ≠ 0) ∨ (k = 1 ∧ lo = 0 ∧ hi ≠ 0) ∨ (k ≠ 1 ∧ k ≠ 9 ∧ s = 0 ∧ lo ≠ 0) ∨ (k ≠ 1 ∧ k ≠ 9 ∧ s = 0 ∧ lo = 0 ∧ hi ≠ 0) ∨ (k = 1 ∧ lo = 0 ∧ hi = 0 ∧ s < 1) ∨ (k = 1 ∧ lo = 0 ∧ hi = 0 ∧ 1 ≤ s ∧ 31 < s) ∨
    (k = 9 ∧ s = 0 ∧ lo < 0) ∨ (k = 9 ∧ s = 0 ∧ 0 ≤ lo ∧ hi < lo) ∨ (k = 9 ∧ s = 0 ∧ 0 ≤ lo ∧ lo ≤ hi ∧ 9 < hi) := by
  by_cases c1 : k = 1
  · by_cases c2 : lo = 0
    · by_cases c3 : hi = 0
      · by_cases c4 : s < 1
        · exact .inr (.inr (.inr (.inr (.inr (.inr (.inl ⟨c1, c2, c3, c4⟩))))))
        · by_cases c5 : 31 < s
          · exact .inr (.inr (.inr (.inr (.inr (.inr (.inr (.inl ⟨c1, c2, c3, by omega, c5⟩)))))))
          · exact .inl (.inl ⟨c1, c2, c3, by omega, by omega⟩)
      · exact .inr (.inr (.inr (.inl ⟨c1, c2, c3⟩)))
    · exact .inr (.inr (.inl ⟨c1, c2⟩))
  · by_cases c2 : s = 0
    · by_cases c3 : k = 9
      · by_cases c4 : lo < 0
        · exact .inr (.inr (.inr (.inr (.inr (.inr (.inr (.inr (.inl ⟨c3, c2, c4⟩))))))))
        · by_cases c5 : hi < lo
          · exact .inr (.inr (.inr (.inr (.inr (.inr (.inr (.inr (.inr (.inl ⟨c3, c2, by omega, c5⟩)))))))))
          · by_cases c6 : 9 < hi
            · exact .inr (.inr (.inr (.inr (.inr (.inr (.inr (.inr (.inr (.inr ⟨c3, c2, by omega, by omega, c6⟩)))))))))
            · exact .inl (.inr (.inl ⟨c3, c2, by omega, by omega, by omega⟩))
      · by_cases c4 : lo = 0
        · by_cases c5 : hi = 0
          · exact .inl (.inr (.inr ⟨c1, c3, c2, c4, c5⟩))
          · exact .inr (.inr (.inr (.inr (.inr (.inl ⟨c1, c3, c2, c4, c5⟩)))))
        · exact .inr (.inr (.inr (.inr (.inl ⟨c1, c3, c2, c4⟩))))
    · exact .inr (.inl ⟨c1, c2⟩)
theorem rightNs_all {l : List Nd} : rightNs l = l.all rightN := by
  induction l with
  | nil => rw [rightNs]; rfl
  | cons x l ih => rw [rightNs, ih, List.all_cons]
theorem lookRight (X) : lookedAt (EX md0 X) (fun _ => none) 1 Tryd.f23 = true := by kernel_rfl
set_option maxHeartbeats 4000000 in
theorem right_step (k s lo hi : Int) (l : List Nd) (hlen : l.length ≤ 1000) (X : FuncId → List AV → Option AV) (hc : ∀ (k : Int) (n : Nat), X 44 [.int .i64 k, .int .i64 n] = some (.bool (countN k n)))
    (hch : ∀ i, i < l.length → X 23 [nodeV (l.getD i default)] = some (.bool (rightN (l.getD i default)))) :
    WP (EX md0 X) noR 1002 (fun _ => none) (Tryd.f23.body.getD .skip) (begin_ [nodeV (.mk k s lo hi l)]) (fun _ => none) 0 (fun u a o nx => (u = .normal ∨ u = .ret) ∧ view o vDepth (a 2) = .bool (rightN (.mk k s lo hi l))) := by
  have hc0 := hc k l.length
  rw [rightN]
  simp only [Tryd.f23, Option.getD_some, nodeV, cNd_mk]
  cases hcn : countN k l.length with
  | false =>
    have hh : headN k s lo hi l.length = false := by simp only [headN, hcn, Bool.false_and]
    rw [hcn] at hc0
    rw [hh, Bool.false_and]
    simp (disch := omega) only [go_sem, ↓IntWalk.iteOmega, IntWalk.toNatUp, Nat.reduceEqDiff, Nat.reduceAdd, Nat.reduceMul, Nat.reduceSub, Nat.reduceLT, Nat.reduceLeDiff, Int.reduceToNat, Int.reduceLT, Int.reduceLE, Int.reduceEq, Int.reduceAdd, Int.reduceSub, Int.reduceMul, Int.toNat_natCast, reduceCtorEq, decide_true, decide_false, IntWalk.i64_in, IntWalk.u64_in, IntWalk.u8_in, hc0]
  | true =>
    rw [hcn] at hc0
    rcases headN_cases k s lo hi with hok | hbad
    · have hh : headN k s lo hi l.length = true := by
        simp only [headN, hcn, Bool.true_and, Bool.and_eq_true, decide_eq_true_eq]
        omega
      rw [hh, Bool.true_and]
      rcases hok with ⟨rfl, rfl, rfl, c4, c5⟩ | ⟨rfl, rfl, c3, c4, c5⟩ | ⟨c1, c2, rfl, rfl, rfl⟩
      all_goals
        simp (disch := omega) only [go_sem, ↓IntWalk.iteOmega, IntWalk.toNatUp, Nat.reduceEqDiff, Nat.reduceAdd, Nat.reduceMul, Nat.reduceSub, Nat.reduceLT, Nat.reduceLeDiff, Int.reduceToNat, Int.reduceLT, Int.reduceLE, Int.reduceEq, Int.reduceAdd, Int.reduceSub, Int.reduceMul, Int.toNat_natCast, reduceCtorEq, decide_true, decide_false, IntWalk.i64_in, IntWalk.u64_in, IntWalk.u8_in, hc0]
        refine WP_loop (fun m a o nx => ∃ i : Nat, i ≤ l.length ∧ m = l.length - i ∧ 2 ≤ nx ∧ a 68 = slN l ∧ a 69 = .int .i64 l.length ∧ a 70 = .int .i64 i ∧ (l.take i).all rightN = true) l.length (by omega) ⟨0, by omega, by omega, by omega, by simp (disch := omega) only [go_sem, ↓IntWalk.iteOmega, IntWalk.toNatUp, Nat.reduceEqDiff, Nat.reduceAdd, Nat.reduceMul, Nat.reduceSub, Nat.reduceLT, Nat.reduceLeDiff, Int.reduceToNat, Int.reduceLT, Int.reduceLE, Int.reduceEq, Int.reduceAdd, Int.reduceSub, Int.reduceMul, Int.toNat_natCast, reduceCtorEq, decide_true, decide_false, IntWalk.i64_in, IntWalk.u64_in, IntWalk.u8_in], by simp (disch := omega) only [go_sem, ↓IntWalk.iteOmega, IntWalk.toNatUp, Nat.reduceEqDiff, Nat.reduceAdd, Nat.reduceMul, Nat.reduceSub, Nat.reduceLT, Nat.reduceLeDiff, Int.reduceToNat, Int.reduceLT, Int.reduceLE, Int.reduceEq, Int.reduceAdd, Int.reduceSub, Int.reduceMul, Int.toNat_natCast, reduceCtorEq, decide_true, decide_false, IntWalk.i64_in, IntWalk.u64_in, IntWalk.u8_in], by simp (disch := omega) only [go_sem, ↓IntWalk.iteOmega, IntWalk.toNatUp, Nat.reduceEqDiff, Nat.reduceAdd, Nat.reduceMul, Nat.reduceSub, Nat.reduceLT, Nat.reduceLeDiff, Int.reduceToNat, Int.reduceLT, Int.reduceLE, Int.reduceEq, Int.reduceAdd, Int.reduceSub, Int.reduceMul, Int.toNat_natCast, reduceCtorEq, decide_true, decide_false, IntWalk.i64_in, IntWalk.u64_in, IntWalk.u8_in], rfl⟩ ?_
        rintro m a o nx ⟨i, hi, rfl, hnx, a68, a69, a70, hal⟩
        by_cases hlt : i < l.length
        · have hat := cNds_at hlt
          have hci := hch i hlt
          simp only [nodeV] at hci
          have htk := take_succ_getD hlt default
          generalize l.getD i default = x at *
          have hsplit : l.all rightN = ((l.take i).all rightN && (rightN x && (l.drop (i + 1)).all rightN)) := by
            conv => lhs; rw [← List.take_append_drop (i + 1) l]
            rw [htk, List.all_append, List.all_append]
            simp [Bool.and_assoc]
          cases hr : rightN x with
          | true =>
            rw [hr] at hci
            simp (disch := omega) only [go_sem, ↓IntWalk.iteOmega, IntWalk.toNatUp, Nat.reduceEqDiff, Nat.reduceAdd, Nat.reduceMul, Nat.reduceSub, Nat.reduceLT, Nat.reduceLeDiff, Int.reduceToNat, Int.reduceLT, Int.reduceLE, Int.reduceEq, Int.reduceAdd, Int.reduceSub, Int.reduceMul, Int.toNat_natCast, reduceCtorEq, decide_true, decide_false, IntWalk.i64_in, IntWalk.u64_in, IntWalk.u8_in, a68, a69, a70, hat, hci]
            exact ⟨_, by omega, i + 1, by omega, rfl, rfl, by rw [htk, List.all_append, hal]; simp [hr]⟩
          | false =>
            rw [hr] at hci
            simp (disch := omega) only [go_sem, ↓IntWalk.iteOmega, IntWalk.toNatUp, Nat.reduceEqDiff, Nat.reduceAdd, Nat.reduceMul, Nat.reduceSub, Nat.reduceLT, Nat.reduceLeDiff, Int.reduceToNat, Int.reduceLT, Int.reduceLE, Int.reduceEq, Int.reduceAdd, Int.reduceSub, Int.reduceMul, Int.toNat_natCast, reduceCtorEq, decide_true, decide_false, IntWalk.i64_in, IntWalk.u64_in, IntWalk.u8_in, a68, a69, a70, hat, hci]
            rw [rightNs_all, hsplit, hr, Bool.false_and, Bool.and_false]
        · have hie : i = l.length := by omega
          rw [hie, List.take_length] at hal
          simp (disch := omega) only [go_sem, ↓IntWalk.iteOmega, IntWalk.toNatUp, Nat.reduceEqDiff, Nat.reduceAdd, Nat.reduceMul, Nat.reduceSub, Nat.reduceLT, Nat.reduceLeDiff, Int.reduceToNat, Int.reduceLT, Int.reduceLE, Int.reduceEq, Int.reduceAdd, Int.reduceSub, Int.reduceMul, Int.toNat_natCast, reduceCtorEq, decide_true, decide_false, IntWalk.i64_in, IntWalk.u64_in, IntWalk.u8_in, a68, a69, a70]
          rw [rightNs_all, hal]
    · have hh : headN k s lo hi l.length = false := Bool.eq_false_iff.2 (fun h => by
        simp only [headN, hcn, Bool.true_and, Bool.and_eq_true, decide_eq_true_eq] at h
        omega)
      rw [hh, Bool.false_and]
      rcases hbad with ⟨c1, c2⟩ | ⟨rfl, c2⟩ | ⟨rfl, rfl, c3⟩ | ⟨c1, c2, rfl, c4⟩ | ⟨c1, c2, rfl, rfl, c5⟩ | ⟨rfl, rfl, rfl, c4⟩ | ⟨rfl, rfl, rfl, c4, c5⟩ | ⟨rfl, rfl, c3⟩ | ⟨rfl, rfl, c3, c4⟩ | ⟨rfl, rfl, c3, c4, c5⟩
      · simp (disch := omega) only [go_sem, ↓IntWalk.iteOmega, IntWalk.toNatUp, Nat.reduceEqDiff, Nat.reduceAdd, Nat.reduceMul, Nat.reduceSub, Nat.reduceLT, Nat.reduceLeDiff, Int.reduceToNat, Int.reduceLT, Int.reduceLE, Int.reduceEq, Int.reduceAdd, Int.reduceSub, Int.reduceMul, Int.toNat_natCast, reduceCtorEq, decide_true, decide_false, IntWalk.i64_in, IntWalk.u64_in, IntWalk.u8_in, hc0, c1, c2]
      · simp (disch := omega) only [go_sem, ↓IntWalk.iteOmega, IntWalk.toNatUp, Nat.reduceEqDiff, Nat.reduceAdd, Nat.reduceMul, Nat.reduceSub, Nat.reduceLT, Nat.reduceLeDiff, Int.reduceToNat, Int.reduceLT, Int.reduceLE, Int.reduceEq, Int.reduceAdd, Int.reduceSub, Int.reduceMul, Int.toNat_natCast, reduceCtorEq, decide_true, decide_false, IntWalk.i64_in, IntWalk.u64_in, IntWalk.u8_in, hc0, c2]
      · simp (disch := omega) only [go_sem, ↓IntWalk.iteOmega, IntWalk.toNatUp, Nat.reduceEqDiff, Nat.reduceAdd, Nat.reduceMul, Nat.reduceSub, Nat.reduceLT, Nat.reduceLeDiff, Int.reduceToNat, Int.reduceLT, Int.reduceLE, Int.reduceEq, Int.reduceAdd, Int.reduceSub, Int.reduceMul, Int.toNat_natCast, reduceCtorEq, decide_true, decide_false, IntWalk.i64_in, IntWalk.u64_in, IntWalk.u8_in, hc0, c3]
      · simp (disch := omega) only [go_sem, ↓IntWalk.iteOmega, IntWalk.toNatUp, Nat.reduceEqDiff, Nat.reduceAdd, Nat.reduceMul, Nat.reduceSub, Nat.reduceLT, Nat.reduceLeDiff, Int.reduceToNat, Int.reduceLT, Int.reduceLE, Int.reduceEq, Int.reduceAdd, Int.reduceSub, Int.reduceMul, Int.toNat_natCast, reduceCtorEq, decide_true, decide_false, IntWalk.i64_in, IntWalk.u64_in, IntWalk.u8_in, hc0, c1, c2, c4]
      · simp (disch := omega) only [go_sem, ↓IntWalk.iteOmega, IntWalk.toNatUp, Nat.reduceEqDiff, Nat.reduceAdd, Nat.reduceMul, Nat.reduceSub, Nat.reduceLT, Nat.reduceLeDiff, Int.reduceToNat, Int.reduceLT, Int.reduceLE, Int.reduceEq, Int.reduceAdd, Int.reduceSub, Int.reduceMul, Int.toNat_natCast, reduceCtorEq, decide_true, decide_false, IntWalk.i64_in, IntWalk.u64_in, IntWalk.u8_in, hc0, c1, c2, c5]
      · simp (disch := omega) only [go_sem, ↓IntWalk.iteOmega, IntWalk.toNatUp, Nat.reduceEqDiff, Nat.reduceAdd, Nat.reduceMul, Nat.reduceSub, Nat.reduceLT, Nat.reduceLeDiff, Int.reduceToNat, Int.reduceLT, Int.reduceLE, Int.reduceEq, Int.reduceAdd, Int.reduceSub, Int.reduceMul, Int.toNat_natCast, reduceCtorEq, decide_true, decide_false, IntWalk.i64_in, IntWalk.u64_in, IntWalk.u8_in, hc0, c4]
      · simp (disch := omega) only [go_sem, ↓IntWalk.iteOmega, IntWalk.toNatUp, Nat.reduceEqDiff, Nat.reduceAdd, Nat.reduceMul, Nat.reduceSub, Nat.reduceLT, Nat.reduceLeDiff, Int.reduceToNat, Int.reduceLT, Int.reduceLE, Int.reduceEq, Int.reduceAdd, Int.reduceSub, Int.reduceMul, Int.toNat_natCast, reduceCtorEq, decide_true, decide_false, IntWalk.i64_in, IntWalk.u64_in, IntWalk.u8_in, hc0, c4, c5]
      · simp (disch := omega) only [go_sem, ↓IntWalk.iteOmega, IntWalk.toNatUp, Nat.reduceEqDiff, Nat.reduceAdd, Nat.reduceMul, Nat.reduceSub, Nat.reduceLT, Nat.reduceLeDiff, Int.reduceToNat, Int.reduceLT, Int.reduceLE, Int.reduceEq, Int.reduceAdd, Int.reduceSub, Int.reduceMul, Int.toNat_natCast, reduceCtorEq, decide_true, decide_false, IntWalk.i64_in, IntWalk.u64_in, IntWalk.u8_in, hc0, c3]
      · simp (disch := omega) only [go_sem, ↓IntWalk.iteOmega, IntWalk.toNatUp, Nat.reduceEqDiff, Nat.reduceAdd, Nat.reduceMul, Nat.reduceSub, Nat.reduceLT, Nat.reduceLeDiff, Int.reduceToNat, Int.reduceLT, Int.reduceLE, Int.reduceEq, Int.reduceAdd, Int.reduceSub, Int.reduceMul, Int.toNat_natCast, reduceCtorEq, decide_true, decide_false, IntWalk.i64_in, IntWalk.u64_in, IntWalk.u8_in, hc0, c3, c4]
      · simp (disch := omega) only [go_sem, ↓IntWalk.iteOmega, IntWalk.toNatUp, Nat.reduceEqDiff, Nat.reduceAdd, Nat.reduceMul, Nat.reduceSub, Nat.reduceLT, Nat.reduceLeDiff, Int.reduceToNat, Int.reduceLT, Int.reduceLE, Int.reduceEq, Int.reduceAdd, Int.reduceSub, Int.reduceMul, Int.toNat_natCast, reduceCtorEq, decide_true, decide_false, IntWalk.i64_in, IntWalk.u64_in, IntWalk.u8_in, hc0, c3, c4, c5]
mutual
/-- No list of parts is too long. -/
def wideN : Nd → Bool
  | .mk _ _ _ _ l => decide (l.length ≤ 1000) && wideNs l
def wideNs : List Nd → Bool
  | [] => true
  | x :: l => wideN x && wideNs l
end
theorem wideNs_all {l : List Nd} : wideNs l = l.all wideN := by
  induction l with
  | nil => rw [wideNs]; rfl
  | cons x l ih => rw [wideNs, ih, List.all_cons]
theorem wide_at {l : List Nd} (h : wideNs l = true) {i : Nat} (hi : i < l.length) : wideN (l.getD i default) = true := by
  rw [wideNs_all, List.all_eq_true] at h
  rw [List.getD_eq_getElem?_getD, List.getElem?_eq_getElem hi]
  exact h _ (List.getElem_mem hi)
def RRight (l : List Nd) (args : List AV) (r : AV) : Prop := ∃ i, i < l.length ∧ args = [nodeV (l.getD i default)] ∧ r = .bool (rightN (l.getD i default))
theorem RRight_fn (l) : Fun1 (RRight l) := by
  rintro args r r' ⟨i, _, rfl, rfl⟩ ⟨j, _, h, rfl⟩
  simp only [List.cons.injEq, AV.agg.injEq, and_true] at h
  rw [cNd_inj h]
theorem size_at_lt {l : List Nd} {j : Nat} (hj : j < l.length) (k s lo hi : Int) : SizeOf.sizeOf (l.getD j default) < SizeOf.sizeOf (Nd.mk k s lo hi l) := by
  rw [List.getD_eq_getElem?_getD, List.getElem?_eq_getElem hj, Option.getD_some]
  have := List.sizeOf_lt_of_mem (List.getElem_mem hj)
  simp only [Nd.mk.sizeOf_spec]
  omega
theorem right_ok : ∀ n : Nd, wideN n = true → Ok Tryd.prog 23 [nodeV n] (.bool (rightN n))
  | .mk k s lo hi l, hw => by
    rw [wideN, Bool.and_eq_true, decide_eq_true_eq] at hw
    refine ok_of_WP (E := EX md0 (tabLook [(23, tRel (RRight l)), (44, tRel RCount)])) (cr := noR) (tab_cons (tab_cons (tab_nil _) (tRel_ok count_ok)) (tRel_ok (fun args r h => by
      obtain ⟨j, hj, rfl, rfl⟩ := h
      have := size_at_lt hj k s lo hi
      exact right_ok (l.getD j default) (wide_at hw.2 hj)))) (noR_ok _) mixed (k := 1002) Tryd.func23 (lookRight _) rfl
      (WP_mono (right_step k s lo hi l hw.1 _ (fun k n => tRel_eq RCount_fn ⟨k, n, rfl, rfl⟩) (fun i hi => tRel_eq (RRight_fn l) ⟨i, hi, rfl, rfl⟩)) ?_)
    rintro u a o nx ⟨h, hv⟩
    refine ⟨h, ?_⟩
    simp only [Tryd.f23]
    simp (disch := omega) only [go_sem, ↓IntWalk.iteOmega, IntWalk.toNatUp, Nat.reduceEqDiff, Nat.reduceAdd, Nat.reduceMul, Nat.reduceSub, Nat.reduceLT, Nat.reduceLeDiff, Int.reduceToNat, Int.reduceLT, Int.reduceLE, Int.reduceEq, Int.reduceAdd, Int.reduceSub, Int.reduceMul, Int.toNat_natCast, reduceCtorEq, decide_true, decide_false, IntWalk.i64_in, IntWalk.u64_in, IntWalk.u8_in]
    exact hv
termination_by n => SizeOf.sizeOf n
decreasing_by
  exact this
end Go.Proofs.YtmcbfbpdfbcakaaDoor.A
/- The plain law of the reader: fuel does not matter; single signs. -/
namespace Go.Proofs.YtmcbfbpdfbcakaaDoor.A
open Go
set_option maxRecDepth 20000
theorem pGo_fuel (s : List UInt8) : ∀ (f f' : Nat) (at_ : Int) (U J : List Nd) (B : Lvs), 1 ≤ f → 1 ≤ f' → (s.length : Int) - at_ < f → (s.length : Int) - at_ < f' → pGo s f at_ U J B = pGo s f' at_ U J B
  | 0, _, _, _, _, _, h, _, _, _ => by omega
  | _, 0, _, _, _, _, _, h, _, _ => by omega
  | f + 1, f' + 1, at_, U, J, B, _, _, h, h' => by
    rw [pGo, pGo]
    by_cases c0 : (s.length : Int) ≤ at_
    · rw [if_pos c0, if_pos c0]
    rw [if_neg c0, if_neg c0]
    have ih := fun at' U' J' B' (h : at_ + 1 ≤ at') => pGo_fuel s f f' at' U' J' B' (by omega) (by omega) (by omega) (by omega)
    have hq := (classF_in s (s.length - (at_ + 1).toNat) (at_ + 1) 0).1
    have e1 := fun U' J' B' => ih (at_ + 1) U' J' B' (by omega)
    have e2 := fun U' J' B' => ih (at_ + 5) U' J' B' (by omega)
    have e3 := fun U' J' B' => ih ((classF s (s.length - (at_ + 1).toNat) (at_ + 1) 0).2.2 + 1) U' J' B' (by omega)
    simp only [e1, e2, e3]
/-- The reader without fuel. -/
def pG (s : List UInt8) (at_ : Int) (U J : List Nd) (B : Lvs) : Nd × Int × Int := pGo s (((s.length : Int) - at_).toNat + 1) at_ U J B
theorem pG_eq (s : List UInt8) (at_ : Int) (U J : List Nd) (B : Lvs) : pG s at_ U J B =
    if (s.length : Int) ≤ at_ then (if B ≠ [] ∨ J = [] then (zeroN, at_, 3) else (manyN 5 (U ++ [manyN 4 J]), 0, 0))
    else if kindN (plainN (byteN s at_)) ≠ 0 then pG s (at_ + 1) U (J ++ [plainN (byteN s at_)]) B
    else if byteN s at_ = 91 then
      let q := classF s (s.length - (at_ + 1).toNat) (at_ + 1) 0
      if q.2.1 = false then (zeroN, q.2.2, 3) else pG s (q.2.2 + 1) U (J ++ [.mk 1 q.1 0 0 []]) B
    else if byteN s at_ = 40 then (if B.length + 1 > 30 then (zeroN, at_, 4) else pG s (at_ + 1) [] [] ((U, J) :: B))
    else if J = [] then (zeroN, at_, 3)
    else if afterN (byteN s at_) = 9 then
      let q := timesN s at_
      if 0 ≤ q.2.2 then (zeroN, q.2.2, 3) else pG s (at_ + 5) U (lastN 9 q.1 q.2.1 J) B
    else if afterN (byteN s at_) ≠ 0 then pG s (at_ + 1) U (lastN (afterN (byteN s at_)) 0 0 J) B
    else if byteN s at_ = 124 then pG s (at_ + 1) (U ++ [manyN 4 J]) [] B
    else if byteN s at_ = 41 ∧ B ≠ [] then pG s (at_ + 1) (B.headD ([], [])).1 ((B.headD ([], [])).2 ++ [manyN 5 (U ++ [manyN 4 J])]) B.tail
    else (zeroN, at_, 3) := by
  by_cases c0 : (s.length : Int) ≤ at_
  · rw [pG, pGo, if_pos c0, if_pos c0]
  rw [pG, pGo, if_neg c0, if_neg c0]
  have ih : ∀ at' U' J' B', at_ + 1 ≤ at' → pGo s ((s.length : Int) - at_).toNat at' U' J' B' = pG s at' U' J' B' := fun at' U' J' B' h => pGo_fuel s _ _ at' U' J' B' (by omega) (by omega) (by omega) (by omega)
  have hq := (classF_in s (s.length - (at_ + 1).toNat) (at_ + 1) 0).1
  have e1 := fun U' J' B' => ih (at_ + 1) U' J' B' (by omega)
  have e2 := fun U' J' B' => ih (at_ + 5) U' J' B' (by omega)
  have e3 := fun U' J' B' => ih ((classF s (s.length - (at_ + 1).toNat) (at_ + 1) 0).2.2 + 1) U' J' B' (by omega)
  simp only [e1, e2, e3]
theorem parseN_pG (s : List UInt8) : parseN s = if 200 < s.length then (zeroN, 0, 4) else pG s 0 [] [] [] := by
  rw [parseN, pG]
  rw [show ((s.length : Int) - 0).toNat = s.length by omega]
/-! ### a text stands at a place -/
def TAt (s : List UInt8) (a : Int) (t : List UInt8) : Prop := ∃ p r, s = p ++ t ++ r ∧ a = p.length
theorem TAt.app {s a t u} (h : TAt s a (t ++ u)) : TAt s a t ∧ TAt s (a + t.length) u := by
  obtain ⟨p, r, rfl, rfl⟩ := h
  exact ⟨⟨p, u ++ r, by simp, rfl⟩, ⟨p ++ t, r, by simp, by simp⟩⟩
theorem TAt.cons {s a c t} (h : TAt s a (c :: t)) : (byteN s a = c.toNat ∧ ¬ (s.length : Int) ≤ a ∧ 0 ≤ a) ∧ TAt s (a + 1) t := by
  have h' : TAt s a ([c] ++ t) := h
  obtain ⟨p, r, rfl, rfl⟩ := h
  refine ⟨⟨?_, ?_, by omega⟩, by simpa using h'.app.2⟩
  · rw [show p ++ c :: t ++ r = p ++ c :: (t ++ r) by simp, byteN_app]
  · simp; omega
theorem TAt.all (s : List UInt8) : TAt s 0 s := ⟨[], [], by simp, rfl⟩
theorem TAt.le {s a t} (h : TAt s a t) : a + t.length ≤ s.length ∧ 0 ≤ a := by
  obtain ⟨p, r, rfl, rfl⟩ := h
  simp; omega
/-! ### single signs -/
theorem plain_u8 {c : UInt8} (h : kindN (plainN c.toNat) ≠ 0) : c = 119 ∨ c = 98 ∨ c = 99 ∨ c = 102 ∨ c = 116 ∨ c = 46 ∨ c = 48 ∨ c = 95 := by
  have : ∀ n : Fin 256, kindN (plainN (n.1 : Nat)) ≠ 0 → n.1 = 119 ∨ n.1 = 98 ∨ n.1 = 99 ∨ n.1 = 102 ∨ n.1 = 116 ∨ n.1 = 46 ∨ n.1 = 48 ∨ n.1 = 95 := by decide +kernel
  have := this ⟨c.toNat, c.toNat_lt⟩ h
  simp only [← UInt8.toNat_inj]
  exact this
theorem pG_plain {s a c t U J B} (h : TAt s a (c :: t)) (hc : kindN (plainN c.toNat) ≠ 0) : pG s a U J B = pG s (a + 1) U (J ++ [plainN c.toNat]) B := by
  obtain ⟨⟨h1, h2, _⟩, _⟩ := h.cons
  rw [pG_eq, if_neg h2, h1, if_pos hc]
theorem pG_open {s a t U J B} (h : TAt s a (40 :: t)) (hb : B.length + 1 ≤ 30) : pG s a U J B = pG s (a + 1) [] [] ((U, J) :: B) := by
  obtain ⟨⟨h1, h2, _⟩, _⟩ := h.cons
  rw [pG_eq, if_neg h2, h1, if_neg (by decide), if_neg (by decide), if_pos (by decide), if_neg (by omega)]
theorem pG_close {s a t U J U0 J0 B} (h : TAt s a (41 :: t)) (hJ : J ≠ []) : pG s a U J ((U0, J0) :: B) = pG s (a + 1) U0 (J0 ++ [manyN 5 (U ++ [manyN 4 J])]) B := by
  obtain ⟨⟨h1, h2, _⟩, _⟩ := h.cons
  rw [pG_eq, if_neg h2, h1, if_neg (by decide), if_neg (by decide), if_neg (by decide), if_neg hJ, if_neg (by decide), if_neg (by decide), if_neg (by decide), if_pos ⟨rfl, by simp⟩]
  rfl
theorem pG_bar {s a t U J B} (h : TAt s a (124 :: t)) (hJ : J ≠ []) : pG s a U J B = pG s (a + 1) (U ++ [manyN 4 J]) [] B := by
  obtain ⟨⟨h1, h2, _⟩, _⟩ := h.cons
  rw [pG_eq, if_neg h2, h1, if_neg (by decide), if_neg (by decide), if_neg (by decide), if_neg hJ, if_neg (by decide), if_neg (by decide), if_pos (by decide)]
theorem last_snoc (k lo hi : Int) (J : List Nd) (x : Nd) : lastN k lo hi (J ++ [x]) = J ++ [.mk k 0 lo hi [x]] := by
  rw [lastN, List.dropLast_concat, List.getLastD_concat]
theorem pG_post {s a c t U J x B} (h : TAt s a (c :: t)) (hc : c = 42 ∨ c = 43 ∨ c = 63) : pG s a U (J ++ [x]) B = pG s (a + 1) U (J ++ [.mk (afterN c.toNat) 0 0 0 [x]]) B := by
  obtain ⟨⟨h1, h2, _⟩, _⟩ := h.cons
  rw [pG_eq, if_neg h2, h1]
  rcases hc with rfl | rfl | rfl <;>
  rw [if_neg (by decide), if_neg (by decide), if_neg (by decide), if_neg (by simp), if_neg (by decide), if_pos (by decide), last_snoc]
theorem byteN_nn (s a) : 0 ≤ byteN s a := by unfold byteN; omega
def dig (x : Nat) : UInt8 := UInt8.ofNat (48 + x)
theorem dig_nat {x : Nat} (h : x ≤ 9) : (dig x).toNat = 48 + x := by
  show (48 + x) % 256 = 48 + x
  omega
theorem pG_times {s a t U J x B} {lo hi : Nat} (h : TAt s a (123 :: dig lo :: 44 :: dig hi :: 125 :: t)) (h1 : lo ≤ hi) (h2 : hi ≤ 9) : pG s a U (J ++ [x]) B = pG s (a + 5) U (J ++ [.mk 9 0 lo hi [x]]) B := by
  obtain ⟨⟨b0, l0, n0⟩, g1⟩ := h.cons
  obtain ⟨⟨b1, l1, _⟩, g2⟩ := g1.cons
  obtain ⟨⟨b2, l2, _⟩, g3⟩ := g2.cons
  obtain ⟨⟨b3, l3, _⟩, g4⟩ := g3.cons
  obtain ⟨⟨b4, l4, _⟩, _⟩ := g4.cons
  rw [show a + 1 + 1 = a + 2 by omega] at *
  rw [show a + 2 + 1 = a + 3 by omega] at *
  rw [show a + 3 + 1 = a + 4 by omega] at *
  rw [dig_nat (by omega)] at b1 b3
  have d1 : digitN s (a + 1) = lo := by rw [digitN, if_neg l1, b1, if_pos (by omega)]; omega
  have d3 : digitN s (a + 3) = hi := by rw [digitN, if_neg l3, b3, if_pos (by omega)]; omega
  have s2 : signAt s (a + 2) 44 = -1 := by rw [signAt, if_neg l2, if_pos b2]
  have s4 : signAt s (a + 4) 125 = -1 := by rw [signAt, if_neg l4, if_pos b4]
  have ht : timesN s a = ((lo : Int), (hi : Int), -1) := by
    unfold timesN
    rw [d1, d3, s2, s4, if_neg (by omega), if_neg (by omega), if_neg (by decide), if_neg (by omega), if_neg (by omega), if_neg (by decide), if_neg (by omega)]
  rw [pG_eq, if_neg l0, b0, if_neg (by decide), if_neg (by decide), if_neg (by decide), if_neg (by simp), if_pos (by decide), ht, if_neg (show ¬ (0 : Int) ≤ -1 by decide), last_snoc]
/-! ### sets -/
def ksOf (m : Nat) : List Nat := (List.range 5).filter fun i => m / 2 ^ i % 2 = 1
theorem set_all : ∀ q : Fin 31, (setS (q.1 + 1) = [46] ∧ q.1 + 1 = 31) ∨ (∃ k : Fin 5, setS (q.1 + 1) = [signB k.1] ∧ q.1 + 1 = 2 ^ k.1) ∨ (setS (q.1 + 1) = clsS (ksOf (q.1 + 1)) ++ [93] ∧ sumK (ksOf (q.1 + 1)) = ((q.1 + 1 : Nat) : Int) ∧ (ksOf (q.1 + 1)).all (fun k => decide (k < 5)) = true) := by decide +kernel
theorem class_at : ∀ (ks : List Nat) (s : List UInt8) (a out : Int) (m : Nat), (∀ k ∈ ks, k < 5) → TAt s a (ks.map signB ++ [93]) → ks.length + 1 ≤ m → classF s m a out = (ks.foldl orK out, decide (0 < ks.foldl orK out), a + ks.length)
  | [], s, a, out, m, _, h, hm => by
    obtain ⟨m, rfl⟩ : ∃ m', m = m' + 1 := ⟨m - 1, by omega⟩
    have h : TAt s a [93] := h
    obtain ⟨⟨h1, _, _⟩, _⟩ := h.cons
    rw [classF, h1]
    have h1 : signN (((93 : UInt8).toNat : Nat) : Int) < 0 := by decide
    rw [if_pos h1]
    simp
    congr
  | k :: ks, s, a, out, m, hk, h, hm => by
    obtain ⟨m, rfl⟩ : ∃ m', m = m' + 1 := ⟨m - 1, by omega⟩
    have hk5 := hk k (List.mem_cons_self ..)
    have h : TAt s a (signB k :: (ks.map signB ++ [93])) := h
    obtain ⟨⟨h1, _, _⟩, h2⟩ := h.cons
    rw [classF, h1, sign_signB hk5, if_neg (by omega), class_at ks s (a + 1) (orN out k) m (fun k' h => hk k' (List.mem_cons_of_mem _ h)) h2 (by rw [List.length_cons] at hm; omega)]
    have e4 : orK out k = orN out k := rfl
    rw [List.foldl_cons, e4, List.length_cons]
    simp only [Prod.mk.injEq, true_and]
    omega
theorem pG_set {s a U J B} {m : Nat} (h : TAt s a (setS m)) (h0 : 1 ≤ m) (h1 : m ≤ 31) : pG s a U J B = pG s (a + (setS m).length) U (J ++ [.mk 1 m 0 0 []]) B := by
  obtain ⟨q, rfl⟩ : ∃ q, m = q + 1 := ⟨m - 1, by omega⟩
  rcases set_all ⟨q, by omega⟩ with ⟨e1, e2⟩ | ⟨k, e1, e2⟩ | ⟨e1, e2, e3⟩
  · simp only at e1 e2
    rw [e1] at h ⊢
    rw [e2, pG_plain h (by decide)]
    rfl
  · simp only at e1 e2
    rw [e1] at h ⊢
    have : ∀ k : Fin 5, kindN (plainN ((signB k.1).toNat : Nat)) ≠ 0 ∧ plainN ((signB k.1).toNat : Nat) = .mk 1 ((2 ^ k.1 : Nat) : Int) 0 0 [] := by
      intro k
      have hd : ∀ k : Fin 5, kindN (plainN ((signB k.1).toNat : Nat)) ≠ 0 := by decide
      refine ⟨hd k, ?_⟩
      match k with
      | ⟨0, _⟩ => rfl
      | ⟨1, _⟩ => rfl
      | ⟨2, _⟩ => rfl
      | ⟨3, _⟩ => rfl
      | ⟨4, _⟩ => rfl
    rw [e2, pG_plain h (this k).1, (this k).2]
    rfl
  · simp only at e1 e2 e3
    rw [e1] at h ⊢
    have hk : ∀ k ∈ ksOf (q + 1), k < 5 := fun k hk => of_decide_eq_true (List.all_eq_true.1 e3 k hk)
    have hle := h.le
    have h' : TAt s a (91 :: ((ksOf (q + 1)).map signB ++ [93])) := h
    obtain ⟨⟨b1, b2, b3⟩, h2⟩ := h'.cons
    have hl : (clsS (ksOf (q + 1)) ++ [93]).length = (ksOf (q + 1)).length + 2 := by rw [List.length_append, clsS, List.length_cons, List.length_map]; rfl
    rw [hl] at hle ⊢
    have hc := class_at (ksOf (q + 1)) s (a + 1) 0 (s.length - (a + 1).toNat) hk h2 (by omega)
    have e2' : (ksOf (q + 1)).foldl orK 0 = ((q + 1 : Nat) : Int) := e2
    rw [e2'] at hc
    rw [pG_eq, if_neg b2, b1, if_neg (by decide), if_pos (by decide), hc]
    have hd : decide ((0 : Int) < ((q + 1 : Nat) : Int)) = true := decide_eq_true (by omega)
    simp only [hd]
    rw [if_neg (by decide)]
    congr 1
    omega
end Go.Proofs.YtmcbfbpdfbcakaaDoor.A
/- What is written of a right expression is read as it was. -/
namespace Go.Proofs.YtmcbfbpdfbcakaaDoor.A
open Go
set_option maxRecDepth 20000
/-! ### an expression's text -/
def tailS (k lo hi : Int) : List UInt8 := if k = 6 then [42] else if k = 7 then [43] else if k = 8 then [63] else [123, dig lo.toNat, 44, dig hi.toNat, 125]
def brkS (b : Bool) (t : List UInt8) : List UInt8 := if b then 40 :: t ++ [41] else t
mutual
def textN (w : Int) : Nd → List UInt8
  | .mk k s lo hi l => if k = 1 then setS s.toNat else if k = 2 then [48] else if k = 3 then [95]
    else if k = 4 ∨ k = 5 then brkS (decide (w ≠ 0 ∧ (k = 5 ∨ w ≠ 5))) (Lib.join (textNs k l) (if k = 5 then [124] else []))
    else (textNs k l).headD [] ++ tailS k lo hi
def textNs (w : Int) : List Nd → List (List UInt8)
  | [] => []
  | x :: l => textN w x :: textNs w l
end
theorem textNs_map (w : Int) (l : List Nd) : textNs w l = l.map (textN w) := by
  induction l with
  | nil => rw [textNs]; rfl
  | cons x l ih => rw [textNs, ih, List.map_cons]
mutual
/-- How deep a text's brackets are: as a part of a join, of a union. -/
def bd : Nd → Nat
  | .mk k _ _ _ l => if k = 4 then 1 + bds l else if k = 5 then 1 + bd5s l else bds l
def bd5 : Nd → Nat
  | .mk k _ _ _ l => if k = 4 then bds l else if k = 5 then 1 + bd5s l else bds l
def bds : List Nd → Nat
  | [] => 0
  | x :: l => max (bd x) (bds l)
def bd5s : List Nd → Nat
  | [] => 0
  | x :: l => max (bd5 x) (bd5s l)
end
def bd0 : Nd → Nat
  | .mk k _ _ _ l => if k = 5 then bd5s l else bds l
theorem bds_le {l : List Nd} {x : Nd} (h : x ∈ l) : bd x ≤ bds l := by
  induction l with
  | nil => cases h
  | cons y l ih =>
    rw [bds]
    rcases List.mem_cons.1 h with rfl | h
    · omega
    · have := ih h; omega
theorem bd5s_le {l : List Nd} {x : Nd} (h : x ∈ l) : bd5 x ≤ bd5s l := by
  induction l with
  | nil => cases h
  | cons y l ih =>
    rw [bd5s]
    rcases List.mem_cons.1 h with rfl | h
    · omega
    · have := ih h; omega
theorem join_one (t sep : List UInt8) : Lib.join [t] sep = t := by simp [Lib.join, List.intercalate]
theorem join_cons2 (t u : List UInt8) (l : List (List UInt8)) (sep : List UInt8) : Lib.join (t :: u :: l) sep = t ++ (sep ++ Lib.join (u :: l) sep) := by simp [Lib.join, List.intercalate]
theorem join_flat (l : List (List UInt8)) : Lib.join l [] = l.flatten := by
  induction l with
  | nil => rfl
  | cons t l ih =>
    cases l with
    | nil => simp [join_one]
    | cons u l => rw [join_cons2, ih]; rfl
/-! ### a right node's numbers -/
theorem right_cases {k s lo hi : Int} {l : List Nd} (h : rightN (.mk k s lo hi l) = true) : (∀ x ∈ l, rightN x = true) ∧
    ((k = 1 ∧ l = [] ∧ lo = 0 ∧ hi = 0 ∧ 1 ≤ s ∧ s ≤ 31) ∨ ((k = 2 ∨ k = 3) ∧ l = [] ∧ s = 0 ∧ lo = 0 ∧ hi = 0) ∨ ((k = 4 ∨ k = 5) ∧ s = 0 ∧ lo = 0 ∧ hi = 0 ∧ ∃ x y r, l = x :: y :: r) ∨
     ((k = 6 ∨ k = 7 ∨ k = 8) ∧ s = 0 ∧ lo = 0 ∧ hi = 0 ∧ ∃ x, l = [x]) ∨ (k = 9 ∧ s = 0 ∧ 0 ≤ lo ∧ lo ≤ hi ∧ hi ≤ 9 ∧ ∃ x, l = [x])) := by
  rw [rightN, Bool.and_eq_true, rightNs_all] at h
  obtain ⟨h, hl⟩ := h
  refine ⟨fun x hx => List.all_eq_true.1 hl x hx, ?_⟩
  simp only [headN, Bool.and_eq_true, decide_eq_true_eq] at h
  obtain ⟨⟨⟨⟨hc, h1⟩, h2⟩, h3⟩, h4⟩ := h
  unfold countN at hc
  split at hc
  · rename_i hk
    have hl0 : l = [] := by simpa using hc
    rcases hk with rfl | rfl | rfl
    · have := h3 rfl
      have := h2.resolve_left (by decide)
      exact .inl ⟨rfl, hl0, by omega, by omega, by omega, by omega⟩
    · have := h2.resolve_left (by decide)
      have := h1.resolve_left (by decide)
      exact .inr (.inl ⟨.inl rfl, hl0, by omega, by omega, by omega⟩)
    · have := h2.resolve_left (by decide)
      have := h1.resolve_left (by decide)
      exact .inr (.inl ⟨.inr rfl, hl0, by omega, by omega, by omega⟩)
  · split at hc
    · rename_i hk
      have hl2 : ∃ x y r, l = x :: y :: r := by
        match l, hc with
        | x :: y :: r, _ => exact ⟨x, y, r, rfl⟩
      have := h2.resolve_left (by omega)
      have := h1.resolve_left (by omega)
      exact .inr (.inr (.inl ⟨hk, by omega, by omega, by omega, hl2⟩))
    · split at hc
      · rename_i hk
        have hl1 : ∃ x, l = [x] := by
          match l, hc with
          | [x], _ => exact ⟨x, rfl⟩
        have := h1.resolve_left (by omega)
        by_cases h9 : k = 9
        · exact .inr (.inr (.inr (.inr ⟨h9, by omega, by omega, by omega, by omega, hl1⟩)))
        · have := h2.resolve_left h9
          exact .inr (.inr (.inr (.inl ⟨by omega, by omega, by omega, by omega, hl1⟩)))
      · cases hc
/-! ### what is read of a text -/
def Piece (n : Nd) : Prop := ∀ (w : Int), w = 4 ∨ 6 ≤ w → ∀ s a U J B, TAt s a (textN w n) → B.length + bd n ≤ 30 → pG s a U J B = pG s (a + (textN w n).length) U (J ++ [n]) B
theorem pieces {l : List Nd} (hl : ∀ x ∈ l, Piece x) {w : Int} (hw : w = 4 ∨ 6 ≤ w) : ∀ {s a U J B}, TAt s a (textNs w l).flatten → B.length + bds l ≤ 30 → pG s a U J B = pG s (a + (textNs w l).flatten.length) U (J ++ l) B := by
  induction l with
  | nil =>
    intro s a U J B h hb
    rw [textNs]
    simp
  | cons x l ih =>
    intro s a U J B h hb
    rw [textNs, List.flatten_cons] at h ⊢
    rw [bds] at hb
    obtain ⟨h1, h2⟩ := h.app
    rw [hl x List.mem_cons_self w hw s a U J B h1 (by omega), ih (fun y hy => hl y (List.mem_cons_of_mem _ hy)) h2 (by omega), List.append_assoc, List.length_append]
    congr 1
    omega
/-- A union's part. -/
theorem part_read {x : Nd} (hr : rightN x = true) (hp : Piece x) (hk : ∀ k s lo hi l, x = .mk k s lo hi l → ∀ y ∈ l, Piece y) {s a U B} (h : TAt s a (textN 5 x)) (hb : B.length + bd5 x ≤ 30) :
    ∃ J', J' ≠ [] ∧ manyN 4 J' = x ∧ pG s a U [] B = pG s (a + (textN 5 x).length) U J' B := by
  obtain ⟨k, se, lo, hi, l⟩ := x
  obtain ⟨hx, hc⟩ := right_cases hr
  by_cases h4 : k = 4
  · subst h4
    have hcc : se = 0 ∧ lo = 0 ∧ hi = 0 ∧ ∃ x y r, l = x :: y :: r := by
      rcases hc with h | h | h | h | h
      · exact absurd h.1 (by decide)
      · exact absurd h.1 (by decide)
      · exact h.2
      · exact absurd h.1 (by decide)
      · exact absurd h.1 (by decide)
    obtain ⟨rfl, rfl, rfl, y1, y2, r, rfl⟩ := hcc
    have et : textN 5 (.mk 4 0 0 0 (y1 :: y2 :: r)) = (textNs 4 (y1 :: y2 :: r)).flatten := by
      rw [textN, if_neg (by decide), if_neg (by decide), if_neg (by decide), if_pos (.inl rfl), if_neg (by decide), join_flat]
      rfl
    rw [et] at h ⊢
    rw [bd5, if_pos rfl] at hb
    refine ⟨y1 :: y2 :: r, by simp, rfl, ?_⟩
    exact pieces (hk _ _ _ _ _ rfl) (.inl rfl) h hb
  · have et : textN 5 (.mk k se lo hi l) = textN 4 (.mk k se lo hi l) := by
      rw [textN, textN]
      by_cases h5 : k = 5 <;> simp [h4, h5]
    have eb : bd5 (.mk k se lo hi l) = bd (.mk k se lo hi l) := by rw [bd5, bd, if_neg h4, if_neg h4]
    rw [et] at h ⊢
    exact ⟨[.mk k se lo hi l], by simp, rfl, hp 4 (.inl rfl) s a U [] B h (by omega)⟩
theorem parts_read {l : List Nd} (hr : ∀ x ∈ l, rightN x = true) (hp : ∀ x ∈ l, Piece x) (hk : ∀ x ∈ l, ∀ k s lo hi l', x = .mk k s lo hi l' → ∀ y ∈ l', Piece y) (hne : l ≠ []) : ∀ {s a U B}, TAt s a (Lib.join (textNs 5 l) [124]) → B.length + bd5s l ≤ 30 →
    ∃ U' J', J' ≠ [] ∧ U' ++ [manyN 4 J'] = U ++ l ∧ pG s a U [] B = pG s (a + (Lib.join (textNs 5 l) [124]).length) U' J' B := by
  induction l with
  | nil => exact absurd rfl hne
  | cons x l ih =>
    intro s a U B h hb
    rw [bd5s] at hb
    have hx := List.mem_cons_self (a := x) (l := l)
    cases l with
    | nil =>
      rw [textNs, textNs, join_one] at h ⊢
      obtain ⟨J', h1, h2, h3⟩ := part_read (hr x hx) (hp x hx) (hk x hx) (U := U) (B := B) h (by omega)
      exact ⟨U, J', h1, by rw [h2], h3⟩
    | cons y l =>
      have e : Lib.join (textNs 5 (x :: y :: l)) [124] = textN 5 x ++ (124 :: Lib.join (textNs 5 (y :: l)) [124]) := by
        rw [textNs, textNs, join_cons2]; rfl
      rw [e] at h ⊢
      obtain ⟨g1, g2⟩ := h.app
      obtain ⟨J', h1, h2, h3⟩ := part_read (hr x hx) (hp x hx) (hk x hx) (U := U) (B := B) g1 (by omega)
      obtain ⟨_, g3⟩ := g2.cons
      obtain ⟨U'', J'', h4, h5, h6⟩ := ih (fun z hz => hr z (List.mem_cons_of_mem _ hz)) (fun z hz => hp z (List.mem_cons_of_mem _ hz)) (fun z hz => hk z (List.mem_cons_of_mem _ hz)) (by simp) (U := U ++ [manyN 4 J']) (B := B) g3 (by omega)
      refine ⟨U'', J'', h4, by rw [h5, h2]; simp, ?_⟩
      rw [h3, pG_bar g2 h1, h6, List.length_append, List.length_cons]
      congr 1
      omega
/-- A whole text, behind a bracket or at the start. -/
theorem whole_read {n : Nd} (hr : rightN n = true) (hp : Piece n) (hd : ∀ k s lo hi l, n = .mk k s lo hi l → (∀ y ∈ l, Piece y) ∧ ∀ y ∈ l, ∀ k s lo hi l', y = .mk k s lo hi l' → ∀ z ∈ l', Piece z) {s a B} (h : TAt s a (textN 0 n)) (hb : B.length + bd0 n ≤ 30) :
    ∃ U' J', J' ≠ [] ∧ manyN 5 (U' ++ [manyN 4 J']) = n ∧ pG s a [] [] B = pG s (a + (textN 0 n).length) U' J' B := by
  obtain ⟨k, se, lo, hi, l⟩ := n
  obtain ⟨hx, hc⟩ := right_cases hr
  obtain ⟨hl, hll⟩ := hd _ _ _ _ _ rfl
  by_cases h45 : k = 4 ∨ k = 5
  · have hcc : se = 0 ∧ lo = 0 ∧ hi = 0 ∧ ∃ x y r, l = x :: y :: r := by
      rcases hc with h | h | h | h | h
      · omega
      · omega
      · exact h.2
      · omega
      · omega
    obtain ⟨rfl, rfl, rfl, y1, y2, r, rfl⟩ := hcc
    rcases h45 with rfl | rfl
    · have et : textN 0 (.mk 4 0 0 0 (y1 :: y2 :: r)) = (textNs 4 (y1 :: y2 :: r)).flatten := by
        rw [textN, if_neg (by decide), if_neg (by decide), if_neg (by decide), if_pos (.inl rfl), if_neg (by decide), join_flat]
        rfl
      rw [et] at h ⊢
      rw [bd0, if_neg (by decide)] at hb
      exact ⟨[], y1 :: y2 :: r, by simp, rfl, pieces hl (.inl rfl) h hb⟩
    · have et : textN 0 (.mk 5 0 0 0 (y1 :: y2 :: r)) = Lib.join (textNs 5 (y1 :: y2 :: r)) [124] := by
        rw [textN, if_neg (by decide), if_neg (by decide), if_neg (by decide), if_pos (.inr rfl), if_pos rfl]
        rfl
      rw [et] at h ⊢
      rw [bd0, if_pos rfl] at hb
      obtain ⟨U', J', h1, h2, h3⟩ := parts_read hx hl hll (by simp) (U := []) h hb
      exact ⟨U', J', h1, by rw [h2]; rfl, h3⟩
  · have et : textN 0 (.mk k se lo hi l) = textN 4 (.mk k se lo hi l) := by
      rw [textN, textN, if_neg h45, if_neg h45]
    have eb : bd (.mk k se lo hi l) = bd0 (.mk k se lo hi l) := by rw [bd0, bd, if_neg (fun e => h45 (.inl e)), if_neg (fun e => h45 (.inr e)), if_neg (fun e => h45 (.inr e))]
    rw [et] at h ⊢
    exact ⟨[], [.mk k se lo hi l], by simp, rfl, hp 4 (.inl rfl) s a [] [] B h (by omega)⟩
theorem piece_all : ∀ (N : Nat) (n : Nd), SizeOf.sizeOf n < N → rightN n = true → Piece n
  | 0, n, h, _ => by omega
  | N + 1, .mk k se lo hi l, hN, hr => by
    obtain ⟨hx, hc⟩ := right_cases hr
    have hsz : ∀ x ∈ l, SizeOf.sizeOf x < SizeOf.sizeOf (Nd.mk k se lo hi l) := fun x hx => by
      have := List.sizeOf_lt_of_mem hx
      simp only [Nd.mk.sizeOf_spec]
      omega
    have hp : ∀ x ∈ l, Piece x := fun x h => piece_all N x (by have := hsz x h; omega) (hx x h)
    have hpp : ∀ x ∈ l, ∀ k s lo hi l', x = .mk k s lo hi l' → ∀ y ∈ l', Piece y := fun x h k s lo hi l' e y hy => by
      have h1 := hsz x h
      have h2 := List.sizeOf_lt_of_mem hy
      have h3 := hx x h
      rw [e] at h1 h3
      have h4 : SizeOf.sizeOf l' < SizeOf.sizeOf (Nd.mk k s lo hi l') := by simp only [Nd.mk.sizeOf_spec]; omega
      exact piece_all N y (by omega) ((right_cases h3).1 y hy)
    intro w hw s a U J B h hb
    rcases hc with ⟨rfl, rfl, rfl, rfl, h0, h1⟩ | ⟨hk, rfl, rfl, rfl, rfl⟩ | ⟨hk, rfl, rfl, rfl, y1, y2, r, rfl⟩ | ⟨hk, rfl, rfl, rfl, x, rfl⟩ | ⟨rfl, rfl, h0, h1, h2, x, rfl⟩
    · rw [textN, if_pos rfl] at h ⊢
      rw [pG_set h (by omega) (by omega), Int.toNat_of_nonneg (by omega)]
    · rcases hk with rfl | rfl
      · rw [textN, if_neg (by decide), if_pos rfl] at h ⊢
        rw [pG_plain h (by decide)]
        rfl
      · rw [textN, if_neg (by decide), if_neg (by decide), if_pos rfl] at h ⊢
        rw [pG_plain h (by decide)]
        rfl
    · -- brackets around
      have et : textN w (.mk k 0 0 0 (y1 :: y2 :: r)) = 40 :: (textN 0 (.mk k 0 0 0 (y1 :: y2 :: r)) ++ [41]) := by
        have : ¬ k = 1 := by omega
        have h2 : ¬ k = 2 := by omega
        have h3 : ¬ k = 3 := by omega
        rw [textN, textN, if_neg this, if_neg h2, if_neg h3, if_pos hk, if_neg this, if_neg h2, if_neg h3, if_pos hk]
        have hd : decide (w ≠ 0 ∧ (k = 5 ∨ w ≠ 5)) = true := decide_eq_true ⟨by omega, by omega⟩
        rw [hd]
        simp [brkS]
      have eb : bd (.mk k 0 0 0 (y1 :: y2 :: r)) = 1 + bd0 (.mk k 0 0 0 (y1 :: y2 :: r)) := by
        rw [bd, bd0]
        rcases hk with rfl | rfl <;> rfl
      rw [et] at h ⊢
      obtain ⟨_, g1⟩ := h.cons
      obtain ⟨g2, g3⟩ := g1.app
      have hpn : Piece (.mk k 0 0 0 (y1 :: y2 :: r)) → True := fun _ => trivial
      -- the inside is read as a whole; it needs no piece of the node itself
      have hin : ∃ U' J', J' ≠ [] ∧ manyN 5 (U' ++ [manyN 4 J']) = .mk k 0 0 0 (y1 :: y2 :: r) ∧ pG s (a + 1) [] [] ((U, J) :: B) = pG s (a + 1 + (textN 0 (.mk k 0 0 0 (y1 :: y2 :: r))).length) U' J' ((U, J) :: B) := by
        have hbl : ((U, J) :: B).length + bd0 (.mk k 0 0 0 (y1 :: y2 :: r)) ≤ 30 := by rw [List.length_cons]; omega
        rcases hk with rfl | rfl
        · have et0 : textN 0 (.mk 4 0 0 0 (y1 :: y2 :: r)) = (textNs 4 (y1 :: y2 :: r)).flatten := by
            rw [textN, if_neg (by decide), if_neg (by decide), if_neg (by decide), if_pos (.inl rfl), if_neg (by decide), join_flat]
            rfl
          rw [et0] at g2 ⊢
          rw [bd0, if_neg (by decide)] at hbl
          exact ⟨[], y1 :: y2 :: r, by simp, rfl, pieces hp (.inl rfl) g2 hbl⟩
        · have et0 : textN 0 (.mk 5 0 0 0 (y1 :: y2 :: r)) = Lib.join (textNs 5 (y1 :: y2 :: r)) [124] := by
            rw [textN, if_neg (by decide), if_neg (by decide), if_neg (by decide), if_pos (.inr rfl), if_pos rfl]
            rfl
          rw [et0] at g2 ⊢
          rw [bd0, if_pos rfl] at hbl
          obtain ⟨U', J', h1, h2, h3⟩ := parts_read hx hp hpp (by simp) (U := []) g2 hbl
          exact ⟨U', J', h1, by rw [h2]; rfl, h3⟩
      obtain ⟨U', J', h1, h2, h3⟩ := hin
      rw [pG_open h (by omega), h3, pG_close g3 h1, h2, List.length_cons, List.length_append]
      congr 1
      simp
      omega
    · have hxp := hp x (by simp)
      have ht : ∃ c : UInt8, (c = 42 ∨ c = 43 ∨ c = 63) ∧ afterN (c.toNat : Nat) = k ∧ textN w (.mk k 0 0 0 [x]) = textN k x ++ [c] := by
        rcases hk with rfl | rfl | rfl
        · refine ⟨42, .inl rfl, rfl, ?_⟩
          rw [textN, if_neg (by decide), if_neg (by decide), if_neg (by decide), if_neg (by decide), textNs]; rfl
        · refine ⟨43, .inr (.inl rfl), rfl, ?_⟩
          rw [textN, if_neg (by decide), if_neg (by decide), if_neg (by decide), if_neg (by decide), textNs]; rfl
        · refine ⟨63, .inr (.inr rfl), rfl, ?_⟩
          rw [textN, if_neg (by decide), if_neg (by decide), if_neg (by decide), if_neg (by decide), textNs]; rfl
      obtain ⟨c, hc, hcn, ht⟩ := ht
      rw [ht] at h ⊢
      rw [bd, if_neg (by omega), if_neg (by omega), bds, bds] at hb
      obtain ⟨g1, g2⟩ := h.app
      rw [hxp k (.inr (by omega)) s a U J B g1 (by omega), pG_post g2 hc, hcn, List.length_append]
      congr 1
      show _ = a + ((_ + 1 : Nat) : Int)
      omega
    · have hxp := hp x (by simp)
      have ht : textN w (.mk 9 0 lo hi [x]) = textN 9 x ++ [123, dig lo.toNat, 44, dig hi.toNat, 125] := by
        rw [textN, if_neg (by decide), if_neg (by decide), if_neg (by decide), if_neg (by decide), textNs]; rfl
      rw [ht] at h ⊢
      rw [bd, if_neg (by decide), if_neg (by decide), bds, bds] at hb
      obtain ⟨g1, g2⟩ := h.app
      rw [hxp 9 (.inr (by omega)) s a U J B g1 (by omega), pG_times g2 (by omega) (by omega), List.length_append, Int.toNat_of_nonneg (by omega), Int.toNat_of_nonneg (by omega)]
      congr 1
      show _ = a + ((_ + 5 : Nat) : Int)
      omega
theorem piece_of {n : Nd} (h : rightN n = true) : Piece n := piece_all _ n (Nat.lt_succ_self _) h
/-- What is written of a right expression is read as it was. -/
theorem parse_text {n : Nd} (h : rightN n = true) (hb : bd0 n ≤ 30) (hl : (textN 0 n).length ≤ 200) : parseN (textN 0 n) = (n, 0, 0) := by
  rw [parseN_pG, if_neg (by omega)]
  obtain ⟨U, J, h1, h2, h3⟩ := whole_read h (piece_of h) (fun k s lo hi l e => by
    rw [e] at h
    refine ⟨fun y hy => piece_of ((right_cases h).1 y hy), fun y hy k' s' lo' hi' l' e' z hz => ?_⟩
    have := (right_cases h).1 y hy
    rw [e'] at this
    exact piece_of ((right_cases this).1 z hz)) (B := []) (TAt.all (textN 0 n)) (by simpa using hb)
  rw [h3, pG_eq, if_pos (by omega), if_neg (by simp [h1]), h2]
end Go.Proofs.YtmcbfbpdfbcakaaDoor.A
/- strconv.Itoa: a number's digits, by the kit's shelf. -/
namespace Go.Proofs.YtmcbfbpdfbcakaaDoor.A
open Go
noncomputable def renIt : Shelf.Ren := ⟨fun x => if x = 171 then 55 else if x = 243 then 61 else if x = 246 then 67 else if x = 283 then 73 else if x = 284 then 74 else if x = 285 then 75 else if x = 286 then 76 else if x = 129 then 78 else if x = 317 then 77 else if x = 318 then 79 else if x = 319 then 80 else if x = 320 then 81 else if x = 337 then 82 else if x = 338 then 83 else x, fun x => if x = 3 then 3 else if x = 9 then 9 else if x = 2 then 2 else if x = 4 then 4 else if x = 171 then 106 else if x = 0 then 0 else if x = 53 then 107 else if x = 37 then 31 else if x = 5 then 5 else if x = 173 then 110 else if x = 212 then 113 else if x = 51 then 114 else if x = 20 then 20 else if x = 213 then 115 else if x = 46 then 50 else if x = 232 then 118 else if x = 233 then 119 else x, fun x => if x = 17 then 1 else if x = 18 then 2 else if x = 19 then 3 else x⟩
theorem laysIt : LaysM.n171 Tryd.prog renIt where
  mixed := mixed
  f129 := Tryd.func78.trans (congrArg some (by kernel_rfl))
  f171 := Tryd.func55.trans (congrArg some (by kernel_rfl))
  f243 := Tryd.func61.trans (congrArg some (by kernel_rfl))
  f246 := Tryd.func67.trans (congrArg some (by kernel_rfl))
  f283 := Tryd.func73.trans (congrArg some (by kernel_rfl))
  f284 := Tryd.func74.trans (congrArg some (by kernel_rfl))
  f285 := Tryd.func75.trans (congrArg some (by kernel_rfl))
  f286 := Tryd.func76.trans (congrArg some (by kernel_rfl))
  f317 := Tryd.func77.trans (congrArg some (by kernel_rfl))
  f318 := Tryd.func79.trans (congrArg some (by kernel_rfl))
  f319 := Tryd.func80.trans (congrArg some (by kernel_rfl))
  f320 := Tryd.func81.trans (congrArg some (by kernel_rfl))
  f337 := Tryd.func82.trans (congrArg some (by kernel_rfl))
  f338 := Tryd.func83.trans (congrArg some (by kernel_rfl))
  t0 := Tryd.underlying0
  a0 := Tryd.isAgg0
  z0 := Tryd.sizeOf0
  v0 := Tryd.zeroValue0
  t2 := Tryd.underlying2
  a2 := Tryd.isAgg2
  z2 := Tryd.sizeOf2
  v2 := Tryd.zeroValue2
  t3 := Tryd.underlying3
  a3 := Tryd.isAgg3
  z3 := Tryd.sizeOf3
  v3 := Tryd.zeroValue3
  t4 := Tryd.underlying4
  a4 := Tryd.isAgg4
  z4 := Tryd.sizeOf4
  v4 := Tryd.zeroValue4
  t5 := Tryd.underlying5
  a5 := Tryd.isAgg5
  z5 := Tryd.sizeOf5
  v5 := Tryd.zeroValue5
  t9 := Tryd.underlying9
  a9 := Tryd.isAgg9
  z9 := Tryd.sizeOf9
  v9 := Tryd.zeroValue9
  t20 := Tryd.underlying20
  a20 := Tryd.isAgg20
  z20 := Tryd.sizeOf20
  v20 := Tryd.zeroValue20
  t37 := Tryd.underlying31
  a37 := Tryd.isAgg31
  z37 := Tryd.sizeOf31
  v37 := Tryd.zeroValue31
  t46 := Tryd.underlying50
  a46 := Tryd.isAgg50
  z46 := Tryd.sizeOf50
  v46 := Tryd.zeroValue50
  t51 := Tryd.underlying114
  a51 := Tryd.isAgg114
  z51 := Tryd.sizeOf114
  v51 := Tryd.zeroValue114
  t53 := Tryd.underlying107
  a53 := Tryd.isAgg107
  z53 := Tryd.sizeOf107
  v53 := Tryd.zeroValue107
  t171 := Tryd.underlying106
  a171 := Tryd.isAgg106
  z171 := Tryd.sizeOf106
  v171 := Tryd.zeroValue106
  t173 := Tryd.underlying110
  a173 := Tryd.isAgg110
  z173 := Tryd.sizeOf110
  v173 := Tryd.zeroValue110
  t212 := Tryd.underlying113
  a212 := Tryd.isAgg113
  z212 := Tryd.sizeOf113
  v212 := Tryd.zeroValue113
  t213 := Tryd.underlying115
  a213 := Tryd.isAgg115
  z213 := Tryd.sizeOf115
  t232 := Tryd.underlying118
  a232 := Tryd.isAgg118
  z232 := Tryd.sizeOf118
  v232 := Tryd.zeroValue118
  t233 := Tryd.underlying119
  a233 := Tryd.isAgg119
  z233 := Tryd.sizeOf119
  v233 := Tryd.zeroValue119
  g17 := by kernel_rfl
  g18 := by kernel_rfl
  g19 := by kernel_rfl
  i0 := by kernel_rfl
  i2 := by kernel_rfl
  i3 := by kernel_rfl
  i4 := by kernel_rfl
  i5 := by kernel_rfl
  i9 := by kernel_rfl
  i20 := by kernel_rfl
  i37 := by kernel_rfl
  i46 := by kernel_rfl
  i51 := by kernel_rfl
  i53 := by kernel_rfl
  i171 := by kernel_rfl
  i173 := by kernel_rfl
  i212 := by kernel_rfl
  i232 := by kernel_rfl
  i233 := by kernel_rfl
  m17 := by kernel_rfl
  m18 := by kernel_rfl
  m19 := by kernel_rfl
theorem gl_tab {S : Nat → Prop} {w : World} (h : Gl S w) : Lib.TabIs Tryd.prog w "internal/strconv.uint64pow10" .u64 Lib.pow10Tab := by
  obtain ⟨_, t, m, hh⟩ := h _ (List.mem_singleton.2 rfl)
  unfold Lib.TabIs World.var?
  rw [show Tryd.prog.globalNamed "internal/strconv.uint64pow10" = some 1 by kernel_rfl]
  simp only [Option.bind_some]
  rw [hh]
def RItoa (args : List AV) (r : AV) : Prop := ∃ n : Int, -9223372036854775808 ≤ n ∧ n ≤ 9223372036854775807 ∧ args = [.int .i64 n] ∧ r = .str (Lib.itoa n)
theorem RItoa_fn : Fun1 RItoa := by
  rintro args r r' ⟨n, _, _, rfl, rfl⟩ ⟨n', _, _, h, rfl⟩
  simp only [List.cons.injEq, AV.int.injEq, true_and, and_true] at h
  rw [h]
theorem RItoa_ok (args r) (h : RItoa args r) : Ok Tryd.prog 55 args r := by
  obtain ⟨n, h0, h1, rfl, rfl⟩ := h
  refine ⟨⟨Tryd.f55, Tryd.func55, by kernel_rfl, by kernel_rfl⟩, fun S w cargs ha hS hG => ?_⟩
  obtain ⟨hl, hr⟩ := ha
  match cargs, hl with
  | [u], _ =>
    have h2 := hr 0 _ _ rfl rfl
    cases h2
    refine (Any.strconv_Itoa laysIt n h0 h1 w (gl_tab hG)).mono ?_
    rintro e w' ⟨rfl, k, os, rfl⟩
    have hb : RowKit.Below w.heap.size w (Sort.grow (w.drewN k) os) := by
      have hd : (w.drewN k).heap = w.heap ∧ (w.drewN k).os = w.os ∧ (w.drewN k).tape = w.tape ∧ (w.drewN k).output = w.output := by
        cases k <;> exact ⟨rfl, rfl, rfl, rfl⟩
      refine ⟨hd.2.1, hd.2.2.1, hd.2.2.2, by rw [Sort.size_grow, hd.1]; omega, fun i hi => ?_⟩
      rw [Sort.heap_grow_old _ _ (by rw [hd.1]; exact hi), hd.1]
    refine ⟨_, S, rfl, hb, .str _, fun _ h => h, fun b hb' => ⟨.inl hb', ?_⟩⟩
    have h5 := hS b hb'
    have h6 := hb.size
    omega
end Go.Proofs.YtmcbfbpdfbcakaaDoor.A
/- regex.Text: its contract. -/
namespace Go.Proofs.YtmcbfbpdfbcakaaDoor.A
open Go
set_option maxRecDepth 20000
/-! ### sets, digits -/
theorem rset_all : ((List.range 31).map fun q => (calls E4 1000).1 53 [.int .i64 ((q + 1 : Nat) : Int)]) = (List.range 31).map fun q => some (.str (setS (q + 1))) := by kernel_rfl
theorem rset_at {s : Nat} (h0 : 1 ≤ s) (h1 : s ≤ 31) : (calls E4 1000).1 53 [.int .i64 (s : Int)] = some (.str (setS s)) := by
  have := map_at rset_all (q := s - 1) (by omega)
  rwa [show s - 1 + 1 = s by omega] at this
theorem itoa_dig : ∀ d : Fin 10, Lib.itoa (d.1 : Int) = [dig d.1] := by decide +kernel
theorem itoa_at {d : Int} (h0 : 0 ≤ d) (h1 : d ≤ 9) : Lib.itoa d = [dig d.toNat] := by
  have := itoa_dig ⟨d.toNat, by omega⟩
  rwa [Int.toNat_of_nonneg h0] at this
/-! ### lengths -/
theorem join_mem_le {t : List UInt8} {l : List (List UInt8)} (h : t ∈ l) (sep : List UInt8) : t.length ≤ (Lib.join l sep).length := by
  induction l with
  | nil => cases h
  | cons u l ih =>
    cases l with
    | nil => rw [List.mem_singleton.1 h, join_one]; omega
    | cons v l =>
      rw [join_cons2, List.length_append, List.length_append]
      rcases List.mem_cons.1 h with rfl | h
      · omega
      · have := ih h; omega
theorem text_kid {k s lo hi w : Int} {l : List Nd} {x : Nd} (hr : rightN (.mk k s lo hi l) = true) (hx : x ∈ l) : (textN k x).length ≤ (textN w (.mk k s lo hi l)).length := by
  obtain ⟨_, hc⟩ := right_cases hr
  rcases hc with ⟨rfl, rfl, _⟩ | ⟨_, rfl, _⟩ | ⟨hk, _⟩ | ⟨hk, _, _, _, y, rfl⟩ | ⟨rfl, _, _, _, _, y, rfl⟩
  · cases hx
  · cases hx
  · rw [textN, if_neg (by omega), if_neg (by omega), if_neg (by omega), if_pos hk]
    have h1 : textN k x ∈ textNs k l := by rw [textNs_map]; exact List.mem_map.2 ⟨x, hx, rfl⟩
    have h2 := join_mem_le h1 (if k = 5 then [124] else [])
    unfold brkS
    split
    · simp; omega
    · exact h2
  · rw [textN, if_neg (by omega), if_neg (by omega), if_neg (by omega), if_neg (by omega), textNs]
    rw [List.mem_singleton.1 hx]
    simp
  · rw [textN, if_neg (by omega), if_neg (by omega), if_neg (by omega), if_neg (by omega), textNs]
    rw [List.mem_singleton.1 hx]
    simp
theorem lookText (X) : lookedAt (EX md0 X) (fun _ => none) 2 Tryd.f45 = true := by kernel_rfl
def finTx (t : List UInt8) : WPost := fun u a o nx => (u = .normal ∨ u = .ret) ∧ wO (resultsL Tryd.prog a ⟨o, nx⟩ Tryd.f45.results.toList) (fun vs => view o vDepth (tup1 vs) = .str t)
theorem text_leaf (k s : Int) (w : Int) (h : (k = 1 ∧ 1 ≤ s ∧ s ≤ 31) ∨ (k = 2 ∧ s = 0) ∨ (k = 3 ∧ s = 0)) (X : FuncId → List AV → Option AV) (hset : ∀ s : Nat, 1 ≤ s → s ≤ 31 → X 53 [.int .i64 s] = some (.str (setS s))) :
    WP (EX md0 X) noR 1002 (fun _ => none) (Tryd.f45.body.getD .skip) (begin_ [nodeV (.mk k s 0 0 []), .int .i64 w]) (fun _ => none) 0 (finTx (textN w (.mk k s 0 0 []))) := by
  simp only [Tryd.f45, Option.getD_some, nodeV, cNd_mk]
  rcases h with ⟨rfl, h0, h1⟩ | ⟨rfl, rfl⟩ | ⟨rfl, rfl⟩
  · have h2 := hset s.toNat (by omega) (by omega)
    rw [Int.toNat_of_nonneg (by omega)] at h2
    simp (disch := omega) only [go_sem, ↓IntWalk.iteOmega, IntWalk.toNatUp, Nat.reduceEqDiff, Nat.reduceAdd, Nat.reduceMul, Nat.reduceSub, Nat.reduceLT, Nat.reduceLeDiff, Int.reduceToNat, Int.reduceLT, Int.reduceLE, Int.reduceEq, Int.reduceAdd, Int.reduceSub, Int.reduceMul, Int.toNat_natCast, reduceCtorEq, decide_true, decide_false, IntWalk.i64_in, IntWalk.u64_in, IntWalk.u8_in, h2]
    refine ⟨.inr rfl, ?_⟩
    simp only [Tryd.f45]
    simp (disch := omega) only [go_sem, ↓IntWalk.iteOmega, IntWalk.toNatUp, Nat.reduceEqDiff, Nat.reduceAdd, Nat.reduceMul, Nat.reduceSub, Nat.reduceLT, Nat.reduceLeDiff, Int.reduceToNat, Int.reduceLT, Int.reduceLE, Int.reduceEq, Int.reduceAdd, Int.reduceSub, Int.reduceMul, Int.toNat_natCast, reduceCtorEq, decide_true, decide_false, IntWalk.i64_in, IntWalk.u64_in, IntWalk.u8_in]
    rw [textN, if_pos rfl]
  · simp (disch := omega) only [go_sem, ↓IntWalk.iteOmega, IntWalk.toNatUp, Nat.reduceEqDiff, Nat.reduceAdd, Nat.reduceMul, Nat.reduceSub, Nat.reduceLT, Nat.reduceLeDiff, Int.reduceToNat, Int.reduceLT, Int.reduceLE, Int.reduceEq, Int.reduceAdd, Int.reduceSub, Int.reduceMul, Int.toNat_natCast, reduceCtorEq, decide_true, decide_false, IntWalk.i64_in, IntWalk.u64_in, IntWalk.u8_in]
    refine ⟨.inr rfl, ?_⟩
    simp only [Tryd.f45]
    simp (disch := omega) only [go_sem, ↓IntWalk.iteOmega, IntWalk.toNatUp, Nat.reduceEqDiff, Nat.reduceAdd, Nat.reduceMul, Nat.reduceSub, Nat.reduceLT, Nat.reduceLeDiff, Int.reduceToNat, Int.reduceLT, Int.reduceLE, Int.reduceEq, Int.reduceAdd, Int.reduceSub, Int.reduceMul, Int.toNat_natCast, reduceCtorEq, decide_true, decide_false, IntWalk.i64_in, IntWalk.u64_in, IntWalk.u8_in]
    rw [textN, if_neg (by decide), if_pos rfl]
  · simp (disch := omega) only [go_sem, ↓IntWalk.iteOmega, IntWalk.toNatUp, Nat.reduceEqDiff, Nat.reduceAdd, Nat.reduceMul, Nat.reduceSub, Nat.reduceLT, Nat.reduceLeDiff, Int.reduceToNat, Int.reduceLT, Int.reduceLE, Int.reduceEq, Int.reduceAdd, Int.reduceSub, Int.reduceMul, Int.toNat_natCast, reduceCtorEq, decide_true, decide_false, IntWalk.i64_in, IntWalk.u64_in, IntWalk.u8_in]
    refine ⟨.inr rfl, ?_⟩
    simp only [Tryd.f45]
    simp (disch := omega) only [go_sem, ↓IntWalk.iteOmega, IntWalk.toNatUp, Nat.reduceEqDiff, Nat.reduceAdd, Nat.reduceMul, Nat.reduceSub, Nat.reduceLT, Nat.reduceLeDiff, Int.reduceToNat, Int.reduceLT, Int.reduceLE, Int.reduceEq, Int.reduceAdd, Int.reduceSub, Int.reduceMul, Int.toNat_natCast, reduceCtorEq, decide_true, decide_false, IntWalk.i64_in, IntWalk.u64_in, IntWalk.u8_in]
    rw [textN, if_neg (by decide), if_neg (by decide), if_pos rfl]
theorem text_post (k lo hi : Int) (x : Nd) (w : Int) (h : ((k = 6 ∨ k = 7 ∨ k = 8) ∧ lo = 0 ∧ hi = 0) ∨ (k = 9 ∧ 0 ≤ lo ∧ lo ≤ hi ∧ hi ≤ 9)) (hlen : (textN w (.mk k 0 lo hi [x])).length ≤ 100000000) (X : FuncId → List AV → Option AV) (hch : X 45 [nodeV x, .int .i64 k] = some (.str (textN k x)))
    (hit : ∀ d : Int, 0 ≤ d → d ≤ 9 → X 55 [.int .i64 d] = some (.str [dig d.toNat])) :
    WP (EX md0 X) noR 1002 (fun _ => none) (Tryd.f45.body.getD .skip) (begin_ [nodeV (.mk k 0 lo hi [x]), .int .i64 w]) (fun _ => none) 0 (finTx (textN w (.mk k 0 lo hi [x]))) := by
  have ht : textN w (.mk k 0 lo hi [x]) = textN k x ++ tailS k lo hi := by
    rw [textN, if_neg (by omega), if_neg (by omega), if_neg (by omega), if_neg (by omega), textNs]; rfl
  have hat : cNds [x] = cNd x ++ [] := by rw [cNds_one, List.append_nil]
  rw [ht] at hlen ⊢
  rw [List.length_append] at hlen
  simp only [nodeV] at hch
  simp only [Tryd.f45, Option.getD_some, nodeV, cNd_mk, slN, List.length_singleton, hat]
  generalize textN k x = t at *
  rcases h with ⟨rfl | rfl | rfl, rfl, rfl⟩ | ⟨rfl, h0, h1, h2⟩
  · simp (disch := omega) only [go_sem, ↓IntWalk.iteOmega, IntWalk.toNatUp, Nat.reduceEqDiff, Nat.reduceAdd, Nat.reduceMul, Nat.reduceSub, Nat.reduceLT, Nat.reduceLeDiff, Int.reduceToNat, Int.reduceLT, Int.reduceLE, Int.reduceEq, Int.reduceAdd, Int.reduceSub, Int.reduceMul, Int.toNat_natCast, reduceCtorEq, decide_true, decide_false, IntWalk.i64_in, IntWalk.u64_in, IntWalk.u8_in, hch]
    refine ⟨.inr rfl, ?_⟩
    simp only [Tryd.f45]
    simp (disch := omega) only [go_sem, ↓IntWalk.iteOmega, IntWalk.toNatUp, Nat.reduceEqDiff, Nat.reduceAdd, Nat.reduceMul, Nat.reduceSub, Nat.reduceLT, Nat.reduceLeDiff, Int.reduceToNat, Int.reduceLT, Int.reduceLE, Int.reduceEq, Int.reduceAdd, Int.reduceSub, Int.reduceMul, Int.toNat_natCast, reduceCtorEq, decide_true, decide_false, IntWalk.i64_in, IntWalk.u64_in, IntWalk.u8_in]
    rfl
  · simp (disch := omega) only [go_sem, ↓IntWalk.iteOmega, IntWalk.toNatUp, Nat.reduceEqDiff, Nat.reduceAdd, Nat.reduceMul, Nat.reduceSub, Nat.reduceLT, Nat.reduceLeDiff, Int.reduceToNat, Int.reduceLT, Int.reduceLE, Int.reduceEq, Int.reduceAdd, Int.reduceSub, Int.reduceMul, Int.toNat_natCast, reduceCtorEq, decide_true, decide_false, IntWalk.i64_in, IntWalk.u64_in, IntWalk.u8_in, hch]
    refine ⟨.inr rfl, ?_⟩
    simp only [Tryd.f45]
    simp (disch := omega) only [go_sem, ↓IntWalk.iteOmega, IntWalk.toNatUp, Nat.reduceEqDiff, Nat.reduceAdd, Nat.reduceMul, Nat.reduceSub, Nat.reduceLT, Nat.reduceLeDiff, Int.reduceToNat, Int.reduceLT, Int.reduceLE, Int.reduceEq, Int.reduceAdd, Int.reduceSub, Int.reduceMul, Int.toNat_natCast, reduceCtorEq, decide_true, decide_false, IntWalk.i64_in, IntWalk.u64_in, IntWalk.u8_in]
    rfl
  · simp (disch := omega) only [go_sem, ↓IntWalk.iteOmega, IntWalk.toNatUp, Nat.reduceEqDiff, Nat.reduceAdd, Nat.reduceMul, Nat.reduceSub, Nat.reduceLT, Nat.reduceLeDiff, Int.reduceToNat, Int.reduceLT, Int.reduceLE, Int.reduceEq, Int.reduceAdd, Int.reduceSub, Int.reduceMul, Int.toNat_natCast, reduceCtorEq, decide_true, decide_false, IntWalk.i64_in, IntWalk.u64_in, IntWalk.u8_in, hch]
    refine ⟨.inr rfl, ?_⟩
    simp only [Tryd.f45]
    simp (disch := omega) only [go_sem, ↓IntWalk.iteOmega, IntWalk.toNatUp, Nat.reduceEqDiff, Nat.reduceAdd, Nat.reduceMul, Nat.reduceSub, Nat.reduceLT, Nat.reduceLeDiff, Int.reduceToNat, Int.reduceLT, Int.reduceLE, Int.reduceEq, Int.reduceAdd, Int.reduceSub, Int.reduceMul, Int.toNat_natCast, reduceCtorEq, decide_true, decide_false, IntWalk.i64_in, IntWalk.u64_in, IntWalk.u8_in]
    rfl
  · have i1 := hit lo (by omega) (by omega)
    have i2 := hit hi (by omega) (by omega)
    simp (disch := omega) only [go_sem, ↓IntWalk.iteOmega, IntWalk.toNatUp, Nat.reduceEqDiff, Nat.reduceAdd, Nat.reduceMul, Nat.reduceSub, Nat.reduceLT, Nat.reduceLeDiff, Int.reduceToNat, Int.reduceLT, Int.reduceLE, Int.reduceEq, Int.reduceAdd, Int.reduceSub, Int.reduceMul, Int.toNat_natCast, reduceCtorEq, decide_true, decide_false, IntWalk.i64_in, IntWalk.u64_in, IntWalk.u8_in, hch, i1, i2]
    refine ⟨.inr rfl, ?_⟩
    simp only [Tryd.f45]
    simp (disch := omega) only [go_sem, ↓IntWalk.iteOmega, IntWalk.toNatUp, Nat.reduceEqDiff, Nat.reduceAdd, Nat.reduceMul, Nat.reduceSub, Nat.reduceLT, Nat.reduceLeDiff, Int.reduceToNat, Int.reduceLT, Int.reduceLE, Int.reduceEq, Int.reduceAdd, Int.reduceSub, Int.reduceMul, Int.toNat_natCast, reduceCtorEq, decide_true, decide_false, IntWalk.i64_in, IntWalk.u64_in, IntWalk.u8_in]
    simp [tailS]
abbrev strK (k : Int) (l : List Nd) : List AV := l.map fun x => AV.str (textN k x)
theorem text_loop (k w : Int) (l : List Nd) (hl : l.length ≤ 1000) (X : FuncId → List AV → Option AV) (hch : ∀ i, i < l.length → X 45 [nodeV (l.getD i default), .int .i64 k] = some (.str (textN k (l.getD i default)))) {Q : WPost} {a : AAct} {o : Ob} {nx : Nat} (hnx : 1 ≤ nx)
    (a1 : a 1 = .int .i64 w) (a2 : a 2 = .ptr (0, 2) (0, 2) 0) (a6 : a 6 = .nil) (a25 : a 25 = slN l) (a26 : a 26 = .int .i64 l.length) (a27 : a 27 = .int .i64 0) (ho : o (0, 2) = some (.row ⟨29, 1, (0, 2), false, true, [.int .i64 k, .int .i64 0, .int .i64 0, .int .i64 0, slN l]⟩))
    (hQ : ∀ a o nx v, 1 ≤ nx → a 1 = .int .i64 w → a 2 = .ptr (0, 2) (0, 2) 0 → a 6 = v → HS 9 1 37 o nx v l.length (strK k l) → o (0, 2) = some (.row ⟨29, 1, (0, 2), false, true, [.int .i64 k, .int .i64 0, .int .i64 0, .int .i64 0, slN l]⟩) → Q .normal a o nx) :
    WP (EX md0 X) noR 1002 (fun _ => none) (pathC [1, 1, 0, 1, 0, 1, 1, 1, 1, 1, 1, 1, 0, 1, 0, 1, 0] (Tryd.f45.body.getD .skip)) a o nx (blockQ 1 Q) := by
  simp only [Tryd.f45, Option.getD_some, pathC]
  refine WP_loop (fun m a o nx => ∃ (i : Nat) (v : AV), i ≤ l.length ∧ m = l.length - i ∧ 1 ≤ nx ∧ a 1 = .int .i64 w ∧ a 2 = .ptr (0, 2) (0, 2) 0 ∧ a 6 = v ∧ a 25 = slN l ∧ a 26 = .int .i64 l.length ∧ a 27 = .int .i64 i ∧ HS 9 1 37 o nx v i (strK k (l.take i)) ∧ o (0, 2) = some (.row ⟨29, 1, (0, 2), false, true, [.int .i64 k, .int .i64 0, .int .i64 0, .int .i64 0, slN l]⟩)) l.length (by omega) ⟨0, .nil, by omega, by omega, hnx, a1, a2, a6, a25, a26, a27, HS.nil, ho⟩ ?_
  clear a1 a2 a6 a25 a26 a27 ho hnx
  rintro m a o nx ⟨i, v, hi, rfl, hnx, a1, a2, a6, a25, a26, a27, hHS, ho⟩
  have hok := hHS.ok
  by_cases hlt : i < l.length
  · have hat := cNds_at hlt
    have hci := hch i hlt
    simp only [nodeV] at hci
    have hsn : strK k (l.take (i + 1)) = strK k (l.take i) ++ [.str (textN k (l.getD i default))] := by rw [strK, take_succ_getD hlt default, List.map_append]; rfl
    generalize l.getD i default = x at *
    rcases hHS with ⟨rfl, e2, e3⟩ | ⟨i1, g1, rfl, hi1, hrow, hlen⟩
    · simp (disch := omega) only [go_sem, ↓IntWalk.iteOmega, IntWalk.toNatUp, Nat.reduceEqDiff, Nat.reduceAdd, Nat.reduceMul, Nat.reduceSub, Nat.reduceLT, Nat.reduceLeDiff, Int.reduceToNat, Int.reduceLT, Int.reduceLE, Int.reduceEq, Int.reduceAdd, Int.reduceSub, Int.reduceMul, Int.toNat_natCast, reduceCtorEq, decide_true, decide_false, IntWalk.i64_in, IntWalk.u64_in, IntWalk.u8_in, a1, a2, a6, a25, a26, a27, ho, hat, hci]
      refine ⟨_, by omega, i + 1, _, by omega, rfl, rfl, rfl, ?_⟩
      rw [hsn]
      exact .inr ⟨nx + 1 + 1, _, by rw [e2], by omega, by simp [upd_app, e3], by rw [e3]; simp [e2]⟩
    · obtain ⟨cs, hcs⟩ : ∃ cs, cs = strK k (l.take i) := ⟨_, rfl⟩
      rw [← hcs] at hrow hlen hsn
      have htk : cs.take (i * 1) = cs := take_len hlen
      have htk' : cs.take i = cs := take_len (by omega)
      simp (disch := omega) only [go_sem, ↓IntWalk.iteOmega, IntWalk.toNatUp, Nat.reduceEqDiff, Nat.reduceAdd, Nat.reduceMul, Nat.reduceSub, Nat.reduceLT, Nat.reduceLeDiff, Int.reduceToNat, Int.reduceLT, Int.reduceLE, Int.reduceEq, Int.reduceAdd, Int.reduceSub, Int.reduceMul, Int.toNat_natCast, reduceCtorEq, decide_true, decide_false, IntWalk.i64_in, IntWalk.u64_in, IntWalk.u8_in, a1, a2, a6, a25, a26, a27, ho, hat, hci, hrow, hlen, htk, htk']
      refine ⟨_, by omega, i + 1, _, by omega, rfl, rfl, rfl, ?_⟩
      rw [hsn]
      exact .inr ⟨i1, _, rfl, by omega, by simp [upd_app], by rw [List.length_append, hlen]; simp⟩
  · have hie : i = l.length := by omega
    rw [hie, List.take_length] at hHS
    simp (disch := omega) only [go_sem, ↓IntWalk.iteOmega, IntWalk.toNatUp, Nat.reduceEqDiff, Nat.reduceAdd, Nat.reduceMul, Nat.reduceSub, Nat.reduceLT, Nat.reduceLeDiff, Int.reduceToNat, Int.reduceLT, Int.reduceLE, Int.reduceEq, Int.reduceAdd, Int.reduceSub, Int.reduceMul, Int.toNat_natCast, reduceCtorEq, decide_true, decide_false, IntWalk.i64_in, IntWalk.u64_in, IntWalk.u8_in, a1, a2, a6, a25, a26, a27, ho, hok]
    exact hQ _ _ _ v (by omega) (by simp (disch := omega) only [go_sem, ↓IntWalk.iteOmega, IntWalk.toNatUp, Nat.reduceEqDiff, Nat.reduceAdd, Nat.reduceMul, Nat.reduceSub, Nat.reduceLT, Nat.reduceLeDiff, Int.reduceToNat, Int.reduceLT, Int.reduceLE, Int.reduceEq, Int.reduceAdd, Int.reduceSub, Int.reduceMul, Int.toNat_natCast, reduceCtorEq, decide_true, decide_false, IntWalk.i64_in, IntWalk.u64_in, IntWalk.u8_in, a1]) (by simp (disch := omega) only [go_sem, ↓IntWalk.iteOmega, IntWalk.toNatUp, Nat.reduceEqDiff, Nat.reduceAdd, Nat.reduceMul, Nat.reduceSub, Nat.reduceLT, Nat.reduceLeDiff, Int.reduceToNat, Int.reduceLT, Int.reduceLE, Int.reduceEq, Int.reduceAdd, Int.reduceSub, Int.reduceMul, Int.toNat_natCast, reduceCtorEq, decide_true, decide_false, IntWalk.i64_in, IntWalk.u64_in, IntWalk.u8_in, a2]) (by simp (disch := omega) only [go_sem, ↓IntWalk.iteOmega, IntWalk.toNatUp, Nat.reduceEqDiff, Nat.reduceAdd, Nat.reduceMul, Nat.reduceSub, Nat.reduceLT, Nat.reduceLeDiff, Int.reduceToNat, Int.reduceLT, Int.reduceLE, Int.reduceEq, Int.reduceAdd, Int.reduceSub, Int.reduceMul, Int.toNat_natCast, reduceCtorEq, decide_true, decide_false, IntWalk.i64_in, IntWalk.u64_in, IntWalk.u8_in, a6]) (hHS.keep (fun _ _ => rfl) (by omega)) ho
theorem text_many (k w : Int) (l : List Nd) (hk : k = 4 ∨ k = 5) (h2 : 2 ≤ l.length) (hl : l.length ≤ 1000) (hlen : (textN w (.mk k 0 0 0 l)).length ≤ 100000000) (X : FuncId → List AV → Option AV) (hch : ∀ i, i < l.length → X 45 [nodeV (l.getD i default), .int .i64 k] = some (.str (textN k (l.getD i default))))
    (hjn : ∀ (xs : List (List UInt8)) (sep : List UInt8), xs ≠ [] → xs.length ≤ 1000000 → (Lib.join xs sep).length ≤ 100000000 → X 54 [.sl xs.length (xs.map .str), .str sep] = some (.str (Lib.join xs sep))) :
    WP (EX md0 X) noR 1002 (fun _ => none) (Tryd.f45.body.getD .skip) (begin_ [nodeV (.mk k 0 0 0 l), .int .i64 w]) (fun _ => none) 0 (finTx (textN w (.mk k 0 0 0 l))) := by
  have ht : textN w (.mk k 0 0 0 l) = brkS (decide (w ≠ 0 ∧ (k = 5 ∨ w ≠ 5))) (Lib.join (textNs k l) (if k = 5 then [124] else [])) := by
    rw [textN, if_neg (by omega), if_neg (by omega), if_neg (by omega), if_pos hk]
  have hjl : (Lib.join (textNs k l) (if k = 5 then [124] else [])).length ≤ 100000000 - 2 ∨ (Lib.join (textNs k l) (if k = 5 then [124] else [])).length ≤ 100000000 := by
    rw [ht, brkS] at hlen
    split at hlen
    · left; simp at hlen; omega
    · right; omega
  have hj := hjn (textNs k l) (if k = 5 then [124] else []) (by rw [textNs_map]; intro e; rw [List.map_eq_nil_iff] at e; rw [e] at h2; simp at h2) (by rw [textNs_map, List.length_map]; omega) (by omega)
  rw [textNs_map, List.length_map, List.map_map] at hj
  rw [ht, textNs_map]
  clear ht hjn
  have hq : ∀ (o : Ob) (v : AV) (nx : Nat), HS 9 1 37 o nx v l.length (strK k l) → view o 1012 v = .sl l.length (strK k l) := fun o v nx h => by
    rw [h.view 1011, strK, List.map_map]
    congr 1
  have hj : X 54 [.sl l.length (strK k l), .str (if k = 5 then [124] else [])] = some (.str (Lib.join (l.map (textN k)) (if k = 5 then [124] else []))) := hj
  rw [textNs_map] at hjl
  simp only [Tryd.f45, Option.getD_some, nodeV, cNd_mk]
  rcases hk with rfl | rfl
  · generalize Lib.join (l.map (textN 4)) (if (4 : Int) = 5 then [124] else []) = t at *
    have hj : X 54 [.sl l.length (strK 4 l), .str []] = some (.str t) := hj
    simp (disch := omega) only [go_sem, ↓IntWalk.iteOmega, IntWalk.toNatUp, Nat.reduceEqDiff, Nat.reduceAdd, Nat.reduceMul, Nat.reduceSub, Nat.reduceLT, Nat.reduceLeDiff, Int.reduceToNat, Int.reduceLT, Int.reduceLE, Int.reduceEq, Int.reduceAdd, Int.reduceSub, Int.reduceMul, Int.toNat_natCast, reduceCtorEq, decide_true, decide_false, IntWalk.i64_in, IntWalk.u64_in, IntWalk.u8_in]
    refine text_loop 4 w l hl X hch (by omega) rfl rfl rfl rfl rfl rfl rfl (fun a o nx v hnx a1 a2 a6 hHS ho => ?_)
    have hok := hHS.ok
    have hv := hq _ _ _ hHS
    by_cases hw0 : w = 0
    · subst hw0
      simp (disch := omega) only [go_sem, ↓IntWalk.iteOmega, IntWalk.toNatUp, Nat.reduceEqDiff, Nat.reduceAdd, Nat.reduceMul, Nat.reduceSub, Nat.reduceLT, Nat.reduceLeDiff, Int.reduceToNat, Int.reduceLT, Int.reduceLE, Int.reduceEq, Int.reduceAdd, Int.reduceSub, Int.reduceMul, Int.toNat_natCast, reduceCtorEq, decide_true, decide_false, IntWalk.i64_in, IntWalk.u64_in, IntWalk.u8_in, a1, a2, a6, ho, hok, hv, hj]
      refine ⟨.inr rfl, ?_⟩
      simp only [Tryd.f45]
      simp (disch := omega) only [go_sem, ↓IntWalk.iteOmega, IntWalk.toNatUp, Nat.reduceEqDiff, Nat.reduceAdd, Nat.reduceMul, Nat.reduceSub, Nat.reduceLT, Nat.reduceLeDiff, Int.reduceToNat, Int.reduceLT, Int.reduceLE, Int.reduceEq, Int.reduceAdd, Int.reduceSub, Int.reduceMul, Int.toNat_natCast, reduceCtorEq, decide_true, decide_false, IntWalk.i64_in, IntWalk.u64_in, IntWalk.u8_in]
      rfl
    · by_cases hw5 : w = 5
      · subst hw5
        simp (disch := omega) only [go_sem, ↓IntWalk.iteOmega, IntWalk.toNatUp, Nat.reduceEqDiff, Nat.reduceAdd, Nat.reduceMul, Nat.reduceSub, Nat.reduceLT, Nat.reduceLeDiff, Int.reduceToNat, Int.reduceLT, Int.reduceLE, Int.reduceEq, Int.reduceAdd, Int.reduceSub, Int.reduceMul, Int.toNat_natCast, reduceCtorEq, decide_true, decide_false, IntWalk.i64_in, IntWalk.u64_in, IntWalk.u8_in, a1, a2, a6, ho, hok, hv, hj]
        refine ⟨.inr rfl, ?_⟩
        simp only [Tryd.f45]
        simp (disch := omega) only [go_sem, ↓IntWalk.iteOmega, IntWalk.toNatUp, Nat.reduceEqDiff, Nat.reduceAdd, Nat.reduceMul, Nat.reduceSub, Nat.reduceLT, Nat.reduceLeDiff, Int.reduceToNat, Int.reduceLT, Int.reduceLE, Int.reduceEq, Int.reduceAdd, Int.reduceSub, Int.reduceMul, Int.toNat_natCast, reduceCtorEq, decide_true, decide_false, IntWalk.i64_in, IntWalk.u64_in, IntWalk.u8_in]
        rfl
      · simp (disch := omega) only [go_sem, ↓IntWalk.iteOmega, IntWalk.toNatUp, Nat.reduceEqDiff, Nat.reduceAdd, Nat.reduceMul, Nat.reduceSub, Nat.reduceLT, Nat.reduceLeDiff, Int.reduceToNat, Int.reduceLT, Int.reduceLE, Int.reduceEq, Int.reduceAdd, Int.reduceSub, Int.reduceMul, Int.toNat_natCast, reduceCtorEq, decide_true, decide_false, IntWalk.i64_in, IntWalk.u64_in, IntWalk.u8_in, a1, a2, a6, ho, hok, hv, hj, hw0, hw5]
        refine ⟨.inr rfl, ?_⟩
        simp only [Tryd.f45]
        simp (disch := omega) only [go_sem, ↓IntWalk.iteOmega, IntWalk.toNatUp, Nat.reduceEqDiff, Nat.reduceAdd, Nat.reduceMul, Nat.reduceSub, Nat.reduceLT, Nat.reduceLeDiff, Int.reduceToNat, Int.reduceLT, Int.reduceLE, Int.reduceEq, Int.reduceAdd, Int.reduceSub, Int.reduceMul, Int.toNat_natCast, reduceCtorEq, decide_true, decide_false, IntWalk.i64_in, IntWalk.u64_in, IntWalk.u8_in]
        simp [brkS, hw0, hw5]
  · generalize Lib.join (l.map (textN 5)) (if (5 : Int) = 5 then [124] else []) = t at *
    have hj : X 54 [.sl l.length (strK 5 l), .str [124]] = some (.str t) := hj
    simp (disch := omega) only [go_sem, ↓IntWalk.iteOmega, IntWalk.toNatUp, Nat.reduceEqDiff, Nat.reduceAdd, Nat.reduceMul, Nat.reduceSub, Nat.reduceLT, Nat.reduceLeDiff, Int.reduceToNat, Int.reduceLT, Int.reduceLE, Int.reduceEq, Int.reduceAdd, Int.reduceSub, Int.reduceMul, Int.toNat_natCast, reduceCtorEq, decide_true, decide_false, IntWalk.i64_in, IntWalk.u64_in, IntWalk.u8_in]
    refine text_loop 5 w l hl X hch (by omega) rfl rfl rfl rfl rfl rfl rfl (fun a o nx v hnx a1 a2 a6 hHS ho => ?_)
    have hok := hHS.ok
    have hv := hq _ _ _ hHS
    by_cases hw0 : w = 0
    · subst hw0
      simp (disch := omega) only [go_sem, ↓IntWalk.iteOmega, IntWalk.toNatUp, Nat.reduceEqDiff, Nat.reduceAdd, Nat.reduceMul, Nat.reduceSub, Nat.reduceLT, Nat.reduceLeDiff, Int.reduceToNat, Int.reduceLT, Int.reduceLE, Int.reduceEq, Int.reduceAdd, Int.reduceSub, Int.reduceMul, Int.toNat_natCast, reduceCtorEq, decide_true, decide_false, IntWalk.i64_in, IntWalk.u64_in, IntWalk.u8_in, a1, a2, a6, ho, hok, hv, hj]
      refine ⟨.inr rfl, ?_⟩
      simp only [Tryd.f45]
      simp (disch := omega) only [go_sem, ↓IntWalk.iteOmega, IntWalk.toNatUp, Nat.reduceEqDiff, Nat.reduceAdd, Nat.reduceMul, Nat.reduceSub, Nat.reduceLT, Nat.reduceLeDiff, Int.reduceToNat, Int.reduceLT, Int.reduceLE, Int.reduceEq, Int.reduceAdd, Int.reduceSub, Int.reduceMul, Int.toNat_natCast, reduceCtorEq, decide_true, decide_false, IntWalk.i64_in, IntWalk.u64_in, IntWalk.u8_in]
      rfl
    · simp (disch := omega) only [go_sem, ↓IntWalk.iteOmega, IntWalk.toNatUp, Nat.reduceEqDiff, Nat.reduceAdd, Nat.reduceMul, Nat.reduceSub, Nat.reduceLT, Nat.reduceLeDiff, Int.reduceToNat, Int.reduceLT, Int.reduceLE, Int.reduceEq, Int.reduceAdd, Int.reduceSub, Int.reduceMul, Int.toNat_natCast, reduceCtorEq, decide_true, decide_false, IntWalk.i64_in, IntWalk.u64_in, IntWalk.u8_in, a1, a2, a6, ho, hok, hv, hj, hw0]
      refine ⟨.inr rfl, ?_⟩
      simp only [Tryd.f45]
      simp (disch := omega) only [go_sem, ↓IntWalk.iteOmega, IntWalk.toNatUp, Nat.reduceEqDiff, Nat.reduceAdd, Nat.reduceMul, Nat.reduceSub, Nat.reduceLT, Nat.reduceLeDiff, Int.reduceToNat, Int.reduceLT, Int.reduceLE, Int.reduceEq, Int.reduceAdd, Int.reduceSub, Int.reduceMul, Int.toNat_natCast, reduceCtorEq, decide_true, decide_false, IntWalk.i64_in, IntWalk.u64_in, IntWalk.u8_in]
      simp [brkS, hw0]
/-! ### the contract -/
def RTx (k : Int) (l : List Nd) (args : List AV) (r : AV) : Prop := ∃ i, i < l.length ∧ args = [nodeV (l.getD i default), .int .i64 k] ∧ r = .str (textN k (l.getD i default))
theorem RTx_fn (k l) : Fun1 (RTx k l) := by
  rintro args r r' ⟨i, _, rfl, rfl⟩ ⟨j, _, h, rfl⟩
  simp only [List.cons.injEq, AV.agg.injEq, and_true] at h
  rw [cNd_inj h]
noncomputable def XTx (k : Int) (l : List Nd) : FuncId → List AV → Option AV := tabLook [(45, tRel (RTx k l)), (53, (calls E4 1000).1 53), (54, tRel RJn), (55, tRel RItoa)]
theorem XTx_ok (k : Int) (l : List Nd) (h : ∀ i, i < l.length → Ok Tryd.prog 45 [nodeV (l.getD i default), .int .i64 k] (.str (textN k (l.getD i default)))) : CPSound Tryd.prog (XTx k l) :=
  tab_cons (tab_cons (tab_cons (tab_cons (tab_nil _) (tRel_ok RItoa_ok)) (tRel_ok RJn_ok)) (fun args r h => ok_calls (E := E4) ext4_ok mixed h)) (tRel_ok (fun args r h' => by obtain ⟨i, hi, rfl, rfl⟩ := h'; exact h i hi))
theorem XTx_set (k l) (s : Nat) (h0 : 1 ≤ s) (h1 : s ≤ 31) : XTx k l 53 [.int .i64 s] = some (.str (setS s)) := rset_at h0 h1
theorem XTx_join (k l) (xs : List (List UInt8)) (sep : List UInt8) (h1 : xs ≠ []) (h2 : xs.length ≤ 1000000) (h3 : (Lib.join xs sep).length ≤ 100000000) : XTx k l 54 [.sl xs.length (xs.map .str), .str sep] = some (.str (Lib.join xs sep)) := tRel_eq RJn_fn ⟨xs, sep, h1, h2, h3, rfl, rfl⟩
theorem XTx_itoa (k l) (d : Int) (h0 : 0 ≤ d) (h1 : d ≤ 9) : XTx k l 55 [.int .i64 d] = some (.str [dig d.toNat]) := by
  rw [← itoa_at h0 h1]
  exact tRel_eq RItoa_fn ⟨d, by omega, by omega, rfl, rfl⟩
theorem XTx_text (k l) (i : Nat) (h : i < l.length) : XTx k l 45 [nodeV (l.getD i default), .int .i64 k] = some (.str (textN k (l.getD i default))) := tRel_eq (RTx_fn k l) ⟨i, h, rfl, rfl⟩
theorem text_ok : ∀ (n : Nd) (w : Int), rightN n = true → wideN n = true → (textN w n).length ≤ 100000000 → Ok Tryd.prog 45 [nodeV n, .int .i64 w] (.str (textN w n))
  | .mk k s lo hi l, w, hr, hw, hlen => by
    obtain ⟨hx, hc⟩ := right_cases hr
    rw [wideN, Bool.and_eq_true, decide_eq_true_eq] at hw
    have hok := XTx_ok k l (fun i hil => by
      have hm : l.getD i default ∈ l := by
        rw [List.getD_eq_getElem?_getD, List.getElem?_eq_getElem hil]
        exact List.getElem_mem hil
      have := size_at_lt hil k s lo hi
      exact text_ok (l.getD i default) k (hx _ hm) (wide_at hw.2 hil) (Nat.le_trans (text_kid hr hm) hlen))
    refine ok_of_WP (E := EX md0 (XTx k l)) (cr := noR) hok (noR_ok _) mixed (k := 1002) Tryd.func45 (lookText _) rfl ?_
    rcases hc with ⟨rfl, rfl, rfl, rfl, h0, h1⟩ | ⟨hk, rfl, rfl, rfl, rfl⟩ | ⟨hk, rfl, rfl, rfl, y1, y2, r, rfl⟩ | ⟨hk, rfl, rfl, rfl, x, rfl⟩ | ⟨rfl, rfl, h0, h1, h2, x, rfl⟩
    · exact text_leaf 1 s w (.inl ⟨rfl, h0, h1⟩) _ (XTx_set _ _)
    · exact text_leaf k 0 w (by omega) _ (XTx_set _ _)
    · exact text_many k w _ hk (by simp) hw.1 hlen _ (XTx_text _ _) (XTx_join _ _)
    · exact text_post k 0 0 x w (.inl ⟨hk, rfl, rfl⟩) hlen _ (XTx_text k [x] 0 (by simp)) (XTx_itoa _ _)
    · exact text_post 9 lo hi x w (.inr ⟨rfl, h0, h1, h2⟩) hlen _ (XTx_text 9 [x] 0 (by simp)) (XTx_itoa _ _)
termination_by n => SizeOf.sizeOf n
decreasing_by
  exact this
theorem lookTextT (X) : lookedAt (EX md0 X) (fun _ => none) 1 Tryd.f25 = true := by kernel_rfl
def RText (args : List AV) (r : AV) : Prop := ∃ n, rightN n = true ∧ wideN n = true ∧ (textN 0 n).length ≤ 100000000 ∧ args = [nodeV n] ∧ r = .str (textN 0 n)
theorem RText_fn : Fun1 RText := by
  rintro args r r' ⟨n, _, _, _, rfl, rfl⟩ ⟨n', _, _, _, h, rfl⟩
  simp only [List.cons.injEq, AV.agg.injEq, and_true] at h
  rw [cNd_inj h]
def RTxw (n : Nd) (args : List AV) (r : AV) : Prop := args = [nodeV n, .int .i64 0] ∧ r = .str (textN 0 n)
theorem RTxw_fn (n) : Fun1 (RTxw n) := by
  rintro args r r' ⟨_, rfl⟩ ⟨_, rfl⟩
  rfl
theorem RText_ok (args r) (h : RText args r) : Ok Tryd.prog 25 args r := by
  obtain ⟨n, h1, h2, h3, rfl, rfl⟩ := h
  refine ok_of_WP (E := EX md0 (tabLook [(45, tRel (RTxw n))])) (cr := noR) (tab_cons (tab_nil _) (tRel_ok (fun args r h' => by obtain ⟨rfl, rfl⟩ := h'; exact text_ok n 0 h1 h2 h3))) (noR_ok _) mixed (k := 1002) Tryd.func25 (lookTextT _) rfl ?_
  have hX : tabLook [(45, tRel (RTxw n))] 45 [nodeV n, .int .i64 0] = some (.str (textN 0 n)) := tRel_eq (RTxw_fn n) ⟨rfl, rfl⟩
  obtain ⟨k, s, lo, hi, l⟩ := n
  simp only [nodeV, cNd_mk] at hX
  simp only [Tryd.f25, Option.getD_some, nodeV, cNd_mk]
  simp (disch := omega) only [go_sem, ↓IntWalk.iteOmega, IntWalk.toNatUp, Nat.reduceEqDiff, Nat.reduceAdd, Nat.reduceMul, Nat.reduceSub, Nat.reduceLT, Nat.reduceLeDiff, Int.reduceToNat, Int.reduceLT, Int.reduceLE, Int.reduceEq, Int.reduceAdd, Int.reduceSub, Int.reduceMul, Int.toNat_natCast, reduceCtorEq, decide_true, decide_false, IntWalk.i64_in, IntWalk.u64_in, IntWalk.u8_in, hX]
end Go.Proofs.YtmcbfbpdfbcakaaDoor.A
