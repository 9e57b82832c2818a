/- The document's builder: part, join. -/
import Derived.Test.YthhfjjnhkifbfaaDoorRows
import Derived.Test.YthhfjjnhkifbfaaDoorMLDTakes1
import Derived.Test.YthhfjjnhkifbfaaDoorMLDTakes2
import Derived.Test.YthhfjjnhkifbfaaDoorMLDTakes3
import Derived.Test.YthhfjjnhkifbfaaDoorMLDTakes4
import Derived.Test.YthhfjjnhkifbfaaDoorMLDTakes5
import Derived.Test.YthhfjjnhkifbfaaDoorMLDTakes6
import Derived.Test.YthhfjjnhkifbfaaDoorMLDTakes7
set_option linter.unusedVariables false
set_option linter.unusedSimpArgs false
set_option linter.unnecessarySimpa false
namespace Go.Proofs.YthhfjjnhkifbfaaDoor.A
open Go
set_option maxRecDepth 20000
/-- The parts that are built in a row. -/
def ksOf (kind hi : Int) (l : List Nd) : List Nd := if kind = 9 then List.replicate hi.toNat (l.getD 0 default) else l
theorem part_as_lead {kind set lo hi : Int} {l : List Nd} (hk : okQ (.mk kind set lo hi l) = true) (h4 : kind ≠ 4) (b : BS) :
    ((bParts (bPartL (ksOf kind hi l)) b.state []).2.n < 1000 → bPart (.mk kind set lo hi l) b = (((b.n : Int), ((bParts (bPartL (ksOf kind hi l)) b.state []).2.n : Int)), leadB kind set lo b.n (bParts (bPartL (ksOf kind hi l)) b.state []).2.n (bParts (bPartL (ksOf kind hi l)) b.state []).1 (bParts (bPartL (ksOf kind hi l)) b.state []).2.state)) ∧
    (1000 ≤ (bParts (bPartL (ksOf kind hi l)) b.state []).2.n → 1000 < (bPart (.mk kind set lo hi l) b).2.n) := by
  rw [okQ, Bool.and_eq_true] at hk
  obtain ⟨hk1, hk2⟩ := hk
  have hkn := okQs_Ns l hk1
  have once : ∀ (x : Nd) (ar bk : Bool), okN x = true → ((bParts (bPartL [x]) b.state []).2.n < 1000 → (bParts (bPartL [x]) b.state []) = ([(bPart x b.state).1], (bPart x b.state).2)) ∧ (1000 ≤ (bParts (bPartL [x]) b.state []).2.n → 1000 < (bOnce (bPart x) ar bk b).2.n) := by
    intro x ar bk hx
    have e : bParts (bPartL [x]) b.state [] = if b.state.n > 1000 then ([], b.state) else ([(bPart x b.state).1], (bPart x b.state).2) := by
      rw [bPartL, bPartL, bParts_cons, bParts]; rfl
    rw [e]
    have e2 : (bOnce (bPart x) ar bk b).2.n = (bPart x b.state).2.n + 1 := rfl
    have := (part_bd x hx b.state).lo
    refine ⟨fun h => ?_, fun h => ?_⟩
    · split at h
      · rename_i h'; exact absurd h (by show ¬ b.state.n < 1000; omega)
      · rename_i h'; rw [if_neg h']
    · rw [e2]
      split at h
      · omega
      · have h : 1000 ≤ (bPart x b.state).2.n := h
        omega
  rw [bPart, bNode, if_neg h4]
  by_cases k9 : kind = 9
  · subst k9
    rw [if_neg (by decide), if_neg (by decide), if_pos rfl, decide_eq_true_eq] at hk2
    obtain ⟨x, m, rfl⟩ := List.exists_cons_of_length_pos hk2.1
    have e1 : ksOf 9 hi (x :: m) = List.replicate hi.toNat x := rfl
    rw [e1, bPartL_rep, if_neg (by decide), if_neg (by decide), if_neg (by decide), if_neg (by decide), if_pos rfl, bPartL]
    obtain ⟨r, hr⟩ : ∃ r, r = bParts (List.replicate hi.toNat (bPart x)) b.state [] := ⟨_, rfl⟩
    have hb : bRepeat lo hi.toNat (bPart x) b = if r.2.state.n > 1000 then (((b.n : Int), (r.2.n : Int)), r.2.state) else (((b.n : Int), (r.2.n : Int)), r.2.state.frees (headL b.n r.1 ++ rLinks lo r.2.n 0 r.1 ++ (if lo = 0 then [((b.n : Int), (r.2.n : Int))] else []))) := by rw [hr]; rfl
    have es : r.2.state.n = r.2.n + 1 := rfl
    rw [← hr]
    show (_ → bRepeat lo hi.toNat (bPart x) b = _) ∧ (_ → 1000 < (bRepeat lo hi.toNat (bPart x) b).2.n)
    rw [hb]
    refine ⟨fun h => ?_, fun h => ?_⟩
    · rw [if_neg (by omega)]; rfl
    · rw [if_pos (by omega)]; show 1000 < r.2.state.n; omega
  have e1 : ksOf kind hi l = l := if_neg k9
  rw [e1]
  by_cases k5 : kind = 5
  · subst k5
    rw [if_pos rfl]
    refine ⟨fun h => rfl, fun h => ?_⟩
    show 1000 < (bParts (bPartL l) b.state []).2.n + 1
    omega
  rw [if_neg k5]
  by_cases k6 : kind = 6 ∨ kind = 7 ∨ kind = 8
  · rw [if_neg (by omega), if_pos k6, decide_eq_true_eq] at hk2
    obtain ⟨x, m, rfl⟩ := List.exists_cons_of_length_pos (show 0 < l.length by omega)
    have hm : m = [] := by simpa using hk2
    subst hm
    rw [okNs, Bool.and_eq_true] at hkn
    have hh : (bPartL [x]).headD (fun b => ((0, 0), b)) = bPart x := by rw [bPartL]; rfl
    rw [hh]
    rcases k6 with rfl | rfl | rfl
    · rw [if_pos rfl]
      refine ⟨fun h => ?_, (once x _ _ hkn.1).2⟩
      rw [(once x true true hkn.1).1 h]; rfl
    · rw [if_neg (by decide), if_pos rfl]
      refine ⟨fun h => ?_, (once x _ _ hkn.1).2⟩
      rw [(once x true true hkn.1).1 h]; rfl
    · rw [if_neg (by decide), if_neg (by decide), if_pos rfl]
      refine ⟨fun h => ?_, (once x _ _ hkn.1).2⟩
      rw [(once x true true hkn.1).1 h]; rfl
  · rw [if_neg (by omega), if_neg k6, if_neg k9, decide_eq_true_eq] at hk2
    have hl : l = [] := List.length_eq_zero_iff.1 hk2
    subst hl
    rw [if_neg (fun h => k6 (.inl h)), if_neg (fun h => k6 (.inr (.inl h))), if_neg (fun h => k6 (.inr (.inr h))), if_neg k9, bPartL, bParts]
    have e2 : ((b.state.n : Nat) : Int) = (b.n : Int) + 1 := by show ((b.n + 1 : Nat) : Int) = _; omega
    have e3 : (bLeaf kind set b).2.n = b.n + 2 := by
      unfold bLeaf; dsimp only; split
      · rfl
      · split <;> rfl
    refine ⟨fun h => ?_, fun h => by rw [e3]; have h : 1000 ≤ b.n + 1 := h; omega⟩
    show bLeaf kind set b = (((b.n : Int), ((b.state.n : Nat) : Int)), leadB kind set lo b.n (b.state.n : Nat) [] b.state.state)
    rw [e2]
    unfold bLeaf leadB
    by_cases k1 : kind = 1
    · rw [if_pos k1, if_pos k1]
    by_cases k3 : kind = 3
    · rw [if_neg k1, if_pos k3, if_neg k1, if_pos k3]
    rw [if_neg k1, if_neg k3, if_neg k1, if_neg k3, if_neg k5, if_neg (fun h => k6 (.inl h)), if_neg (fun h => k6 (.inr (.inl h))), if_neg (fun h => k6 (.inr (.inr h))), if_neg k9]
theorem qState_much (b : BS) (h : b.n ≤ 1000) : (qState b true).2.2 = true ∧ (qState b true).2.1.n ≤ 1000 := by
  unfold qState
  split
  · exact ⟨rfl, h⟩
  · exact ⟨rfl, by show b.n + 1 ≤ 1000; omega⟩
theorem leadB_n (kind set lo s e : Int) (p : List (Int × Int)) (b : BS) : (leadB kind set lo s e p b).n = b.n := by
  unfold leadB
  repeat (first | rfl | split)
noncomputable abbrev tabQPart : List (FuncId × (List AV → AH → Option (AV × AH))) := [(41, cRel QPart), (51, cRel QJoin), (52, cRel QState), (53, cRel QLead), (58, cRel QFree)]
theorem crQPart_ok : CRSound Tryd.prog (tabLookR tabQPart) ∧ Up (tabLookR tabQPart) :=
  tabR_cons (tabR_cons (tabR_cons (tabR_cons (tabR_cons (tabR_nil _) fun args H v H' h => (cRel_some h).1) fun args H v H' h => (cRel_some h).1) fun args H v H' h => (cRel_some h).1) fun args H v H' h => (cRel_some h).1) fun args H v H' h => (cRel_some h).1
theorem lookQPart (X) : lookedAt (EX md0 X) (fun _ => none) 2 Tryd.f41 = true := by kernel_rfl
theorem ksOf_facts {kind set lo hi : Int} {l : List Nd} (hk : okQ (.mk kind set lo hi l) = true) (h4 : kind ≠ 4) : okNs (ksOf kind hi l) = true ∧ (ksOf kind hi l).length ≤ 10 ∧ (∀ x ∈ ksOf kind hi l, x ∈ l) ∧ (∀ i, i < (ksOf kind hi l).length → 0 < l.length ∧ (kind = 5 → i < l.length ∧ (ksOf kind hi l).getD i default = l.getD i default) ∧ (kind ≠ 5 → (ksOf kind hi l).getD i default = l.getD 0 default)) ∧ (((ksOf kind hi l).length : Int) = if kind = 9 then hi else (l.length : Int)) ∧ (kind = 6 ∨ kind = 7 ∨ kind = 8 → (ksOf kind hi l).length = 1) ∧ (kind = 9 → (0 ≤ lo ∧ lo ≤ 10) ∧ (0 < hi ↔ 0 < (ksOf kind hi l).length)) := by
  rw [okQ, Bool.and_eq_true] at hk
  obtain ⟨hk1, hk2⟩ := hk
  have hkn := okQs_Ns l hk1
  by_cases k9 : kind = 9
  · rw [if_neg (by omega), if_neg (by omega), if_pos k9, decide_eq_true_eq] at hk2
    obtain ⟨x, m, rfl⟩ := List.exists_cons_of_length_pos hk2.1
    have e1 : ksOf kind hi (x :: m) = List.replicate hi.toNat x := by rw [ksOf, if_pos k9]; rfl
    rw [okNs, Bool.and_eq_true] at hkn
    rw [e1, List.length_replicate, if_pos k9]
    refine ⟨okNs_rep hkn.1 _, by omega, fun y hy => by rw [List.eq_of_mem_replicate hy]; exact List.mem_cons_self, fun i hi' => ⟨by simp, fun h => by omega, fun _ => ?_⟩, by omega, fun h => by omega, fun _ => ⟨by omega, by omega⟩⟩
    simp [List.getD, List.getElem?_replicate, hi']
  · have e1 : ksOf kind hi l = l := if_neg k9
    rw [e1, if_neg k9]
    refine ⟨hkn, ?_, fun _ h => h, fun i hi' => ⟨by omega, fun _ => ⟨hi', rfl⟩, fun h5 => ?_⟩, rfl, fun h => ?_, fun h => absurd h k9⟩
    · by_cases k5 : kind = 4 ∨ kind = 5
      · rw [if_pos k5, decide_eq_true_eq] at hk2; omega
      rw [if_neg k5] at hk2
      by_cases k6 : kind = 6 ∨ kind = 7 ∨ kind = 8
      · rw [if_pos k6, decide_eq_true_eq] at hk2; omega
      rw [if_neg k6, if_neg k9, decide_eq_true_eq] at hk2; omega
    · rw [if_neg (by omega)] at hk2
      by_cases k6 : kind = 6 ∨ kind = 7 ∨ kind = 8
      · rw [if_pos k6, decide_eq_true_eq] at hk2
        rw [show i = 0 by omega]
      · rw [if_neg k6, if_neg k9, decide_eq_true_eq] at hk2; omega
    · rw [if_neg (by omega), if_pos h, decide_eq_true_eq] at hk2; exact hk2
theorem qpart_ok {kind set lo hi : Int} {l : List Nd} (hk : okQ (.mk kind set lo hi l) = true) (h4 : kind ≠ 4) (hpart : ∀ x ∈ l, ∀ t o nx b, QAt o nx t b false → QPre b → ∃ v H', QPart [bp t, nodeV x] ⟨o, nx⟩ v H') {t : Nat} {o : Ob} {nx : Nat} {b : BS} (h : QAt o nx t b false) (hp : QPre b) :
    ∃ v H', QPart [bp t, nodeV (.mk kind set lo hi l)] ⟨o, nx⟩ v H' := by
  obtain ⟨cr, hcr⟩ : ∃ cr, cr = tabLookR tabQPart := ⟨_, rfl⟩
  have hP : cr 41 = cRel QPart := by rw [hcr]; rfl
  have hS : cr 52 = cRel QState := by rw [hcr]; rfl
  have hL : cr 53 = cRel QLead := by rw [hcr]; rfl
  obtain ⟨f1, f2, f3, f4, f5, f6, f7⟩ := ksOf_facts hk h4
  obtain ⟨pA, pB⟩ := part_as_lead hk h4 b
  obtain ⟨ks, hks⟩ : ∃ ks, ks = ksOf kind hi l := ⟨_, rfl⟩
  rw [← hks] at f1 f2 f3 f4 f5 f6 f7 pA pB
  have hpart' : ∀ x ∈ ks, ∀ t o nx b, QAt o nx t b false → QPre b → ∃ v H', QPart [bp t, nodeV x] ⟨o, nx⟩ v H' := fun x hx => hpart x (f3 x hx)
  obtain ⟨z, hz⟩ : ∃ z, z = bPart (.mk kind set lo hi l) b := ⟨_, rfl⟩
  rw [← hz] at pA pB
  obtain ⟨v, H', h1, h2⟩ := okR_of_WP (E := EX md0 (fun _ _ => none)) (cr := cr) (cp_none _) (hcr ▸ crQPart_ok) mixed (k := 30) (args := [bp t, nodeV (.mk kind set lo hi l)]) (o := o) (nx := nx) (Post := fun v o' nx' => QRes z t v ⟨o, nx⟩ ⟨o', nx'⟩) Tryd.func41 (lookQPart _) rfl (by
    clear hcr
    have hnew : ∀ y, ∀ i j, i < nx → upd o (nx, 3) y (i, j) = o (i, j) := fun y i j hi => by simp (disch := omega) only [upd_fst]
    have hlo := bParts_lo f1 b.state []
    have es : b.state.n = b.n + 1 := rfl
    have hpn := hp.n
    have hpf := hp.f
    have hps := hp.s
    have hrow := h
    obtain ⟨vS, vF, hrow⟩ := hrow
    have htn := hrow.lt
    replace hrow := hrow.row
    simp only [Tryd.f41, Option.getD_some]
    simp (disch := omega) only [go_sem, ↓IntWalk.iteOmega, IntWalk.toNatUp, Nat.reduceEqDiff, Nat.reduceAdd, Nat.reduceMul, Nat.reduceSub, Nat.reduceLT, Nat.reduceLeDiff, Int.reduceToNat, Int.reduceLT, Int.reduceLE, Int.reduceEq, Int.reduceAdd, Int.reduceSub, Int.reduceMul, Int.toNat_natCast, reduceCtorEq, decide_true, decide_false, IntWalk.i64_in, IntWalk.u64_in, IntWalk.u8_in, hS, hrow, h4]
    refine qstate_call (h.new (hnew _) (by omega)) hpn ?_
    intro o1 nx1 hle1 hB1 hk1
    have hx3 : o1 (nx, 3) = some (.row ⟨54, 1, (nx, 3), false, true, [.int .i64 kind, .int .i64 set, .int .i64 lo, .int .i64 hi, slN l]⟩) := by rw [hk1 _ _ (by omega) (fun e => absurd e (by decide)) (by decide) (by decide)]; simp [upd_app]
    have k1 : QKeep t o nx o1 := (QKeep.new (hnew _)).trans hk1 (by omega)
    clear hk1 hrow
    obtain ⟨s0, hs0⟩ : ∃ s0, s0 = (qState b false).1 := ⟨_, rfl⟩
    rw [← hs0]
    have hst : QAt o1 nx1 t b.state false ∧ QPre b.state ∧ s0 = b.n ∨ ∃ b', b'.n ≤ 1000 ∧ QAt o1 nx1 t b' true ∧ 1000 < (bParts (bPartL ks) b.state []).2.n := by
      by_cases hb : b.n ≥ 1000
      · rw [show qState b false = (0, b, true) from if_pos hb] at hB1
        exact .inr ⟨b, hpn, hB1, by omega⟩
      · have e : qState b false = ((b.n : Int), b.state, false) := if_neg hb
        rw [e] at hB1 hs0
        exact .inl ⟨hB1, ⟨by show b.f.length ≤ _; omega, by show b.s.length ≤ _; omega, by omega⟩, hs0⟩
    clear hB1 hs0 hlo
    obtain ⟨c18, h18⟩ : ∃ c, c = pathC [1, 1, 1, 1, 1, 1, 1, 1] (Tryd.f41.body.getD .skip) := ⟨_, rfl⟩
    have h18' := h18
    simp only [Tryd.f41, Option.getD_some, pathC] at h18'
    have loop : ∀ (a : AAct) (o2 : Ob) (nx2 : Nat) (Q : WPost), nx1 ≤ nx2 → o2 = o1 → a 3 = .ptr (nx, 3) (nx, 3) 0 → a 7 = .nil → a 8 = .nil → a 9 = .int .i64 ks.length → a 10 = .int .i64 0 → a 0 = bp t → a 6 = .int .i64 s0 →
        (∀ (a : AAct) (o' : Ob) (nx' : Nat) (v : AV × AV), a 4 = v.1 → a 5 = v.2 → QRes z t (.tup [v.1, v.2]) ⟨o, nx⟩ ⟨o', nx'⟩ → Q .ret a o' nx') → WP (EX md0 (fun _ _ => none)) cr 30 (fun _ => none) (pathC [1, 1, 1, 1, 1, 1, 1, 0, 1, 0] (Tryd.f41.body.getD .skip)) a o2 nx2 (blockQ 0 (thenQ (EX md0 (fun _ _ => none)) cr 30 (fun _ => none) c18 Q)) := by
      intro a o2 nx2 Q hle2 ho2 h3 h7 h8 h9 h10 h0 h6 hQ
      subst ho2
      refine qpart_loop (s := s0) (b0 := b.state) (o0 := o) (nx0 := nx) f1 f2 f4 hpart' hP (Nat.le_refl nx) (by omega) (by omega) (hst.imp (fun ⟨u1, u2, _⟩ => ⟨u1.new (fun _ _ _ => rfl) hle2, u2⟩) (fun ⟨b', u1, u2, u3⟩ => ⟨b', u1, u2.new (fun _ _ _ => rfl) hle2, u3⟩)) hx3 h3 h7 h8 h9 h10 h0 h6 k1 ?_ ?_
      · clear h3 h7 h8 h9 h10 h0 h6
        intro a o3 nx3 b3 out vf vt hnx3 hrn3 hB3 hp3 hbp hout hf ht hx3 h3 h7 h8 h0 h6 k3
        rw [hbp] at pA pB hst
        dsimp only at pA pB hst
        rcases hst with ⟨_, _, hs0⟩ | ⟨_, _, _, hm⟩
        · rw [h18]
          simp only [Tryd.f41, Option.getD_some, pathC]
          have hp3n := hp3.n
          have hp3f := hp3.f
          have hp3s := hp3.s
          simp (disch := omega) only [go_sem, ↓IntWalk.iteOmega, IntWalk.toNatUp, Nat.reduceEqDiff, Nat.reduceAdd, Nat.reduceMul, Nat.reduceSub, Nat.reduceLT, Nat.reduceLeDiff, Int.reduceToNat, Int.reduceLT, Int.reduceLE, Int.reduceEq, Int.reduceAdd, Int.reduceSub, Int.reduceMul, Int.toNat_natCast, reduceCtorEq, decide_true, decide_false, IntWalk.i64_in, IntWalk.u64_in, IntWalk.u8_in, hS, h0, h3, h6, h7, h8]
          refine qstate_call (hB3.new (fun _ _ _ => rfl) (by omega)) hp3n ?_
          intro o4 nx4 hle4 hB4 hk4
          have k4 : QKeep t o nx o4 := k3.trans (fun i j (hi : i < nx3) => hk4 i j (by omega)) (by omega)
          have hx34 := (hk4 nx 3 (by omega) (fun e => absurd e (by decide)) (by decide) (by decide)).trans hx3
          have hf4 := (hf.slot (o' := o3) (nx' := nx3 + 1) (fun _ => rfl) (by omega)).keep hk4 (by decide) (by decide) (by decide) hle4
          have ht4 := (ht.slot (o' := o3) (nx' := nx3 + 1) (fun _ => rfl) (by omega)).keep hk4 (by decide) (by decide) (by decide) hle4
          by_cases hb3 : b3.n ≥ 1000
          · rw [show qState b3 false = (0, b3, true) from if_pos hb3] at hB4 ⊢
            have hrow4 := hB4
            obtain ⟨vS, vF, hrow4⟩ := hrow4
            replace hrow4 := hrow4.row
            simp (disch := omega) only [go_sem, ↓IntWalk.iteOmega, IntWalk.toNatUp, Nat.reduceEqDiff, Nat.reduceAdd, Nat.reduceMul, Nat.reduceSub, Nat.reduceLT, Nat.reduceLeDiff, Int.reduceToNat, Int.reduceLT, Int.reduceLE, Int.reduceEq, Int.reduceAdd, Int.reduceSub, Int.reduceMul, Int.toNat_natCast, reduceCtorEq, decide_true, decide_false, IntWalk.i64_in, IntWalk.u64_in, IntWalk.u8_in, hrow4, h0, h6]
            refine hQ _ _ _ (.int .i64 s0, .int .i64 0) (by simp (disch := omega) only [go_sem, ↓IntWalk.iteOmega, IntWalk.toNatUp, Nat.reduceEqDiff, Nat.reduceAdd, Nat.reduceMul, Nat.reduceSub, Nat.reduceLT, Nat.reduceLeDiff, Int.reduceToNat, Int.reduceLT, Int.reduceLE, Int.reduceEq, Int.reduceAdd, Int.reduceSub, Int.reduceMul, Int.toNat_natCast, reduceCtorEq, decide_true, decide_false, IntWalk.i64_in, IntWalk.u64_in, IntWalk.u8_in, h6]) (by simp (disch := omega) only [go_sem, ↓IntWalk.iteOmega, IntWalk.toNatUp, Nat.reduceEqDiff, Nat.reduceAdd, Nat.reduceMul, Nat.reduceSub, Nat.reduceLT, Nat.reduceLeDiff, Int.reduceToNat, Int.reduceLT, Int.reduceLE, Int.reduceEq, Int.reduceAdd, Int.reduceSub, Int.reduceMul, Int.toNat_natCast, reduceCtorEq, decide_true, decide_false, IntWalk.i64_in, IntWalk.u64_in, IntWalk.u8_in]) ⟨by dsimp only; omega, k4, s0, 0, rfl, .inr ⟨pB hb3, b3, hp3n, hB4.new (fun _ _ _ => rfl) (by dsimp only; omega)⟩⟩
          · rw [show qState b3 false = ((b3.n : Int), b3.state, false) from if_neg hb3] at hB4 ⊢
            have hrow4 := hB4
            obtain ⟨vS, vF, hrow4⟩ := hrow4
            replace hrow4 := hrow4.row
            have hpA := pA (by omega)
            simp (disch := omega) only [go_sem, ↓IntWalk.iteOmega, IntWalk.toNatUp, Nat.reduceEqDiff, Nat.reduceAdd, Nat.reduceMul, Nat.reduceSub, Nat.reduceLT, Nat.reduceLeDiff, Int.reduceToNat, Int.reduceLT, Int.reduceLE, Int.reduceEq, Int.reduceAdd, Int.reduceSub, Int.reduceMul, Int.toNat_natCast, reduceCtorEq, decide_true, decide_false, IntWalk.i64_in, IntWalk.u64_in, IntWalk.u8_in, hrow4, hL, h0, h3, h6, h7, h8, hx34]
            rw [← cNd_mk]
            have hBn : ∀ n, nx4 ≤ n → QAt o4 n t b3.state false := fun n hn => hB4.new (fun _ _ _ => rfl) hn
            have hfn : ∀ n, nx4 ≤ n → IAt 70 o4 n vf (fstL out) := fun n hn => hf4.slot (fun _ => rfl) hn
            have htn' : ∀ n, nx4 ≤ n → IAt 74 o4 n vt (sndL out) := fun n hn => ht4.slot (fun _ => rfl) hn
            refine cRel_call (lead_ok (hBn _ (by omega)) (hfn _ (by omega)) (htn' _ (by omega)) (by show b3.f.length ≤ _; omega) (by show b3.s.length ≤ _; omega) (by omega) (fun h => by rw [hout]; exact f6 h) (fun h => by rw [hout]; exact f7 h)) fun v H' hr => ?_
            obtain ⟨rfl, g1, g2, g3⟩ := hr.2 t b3.state kind set lo hi l s0 b3.n vf vt out rfl (hfn _ (by dsimp only; omega)) (htn' _ (by dsimp only; omega)) (hBn _ (by dsimp only; omega))
            obtain ⟨o5, nx5⟩ := H'
            dsimp only at g1 g2 g3
            have k5 : QKeep t o nx o5 := k4.trans (fun i j (hi : i < nx4) => g3 i j (by omega)) (by omega)
            simp (disch := omega) only [go_sem, ↓IntWalk.iteOmega, IntWalk.toNatUp, Nat.reduceEqDiff, Nat.reduceAdd, Nat.reduceMul, Nat.reduceSub, Nat.reduceLT, Nat.reduceLeDiff, Int.reduceToNat, Int.reduceLT, Int.reduceLE, Int.reduceEq, Int.reduceAdd, Int.reduceSub, Int.reduceMul, Int.toNat_natCast, reduceCtorEq, decide_true, decide_false, IntWalk.i64_in, IntWalk.u64_in, IntWalk.u8_in, h0, h6]
            refine hQ _ _ _ (.int .i64 s0, .int .i64 b3.n) (by simp (disch := omega) only [go_sem, ↓IntWalk.iteOmega, IntWalk.toNatUp, Nat.reduceEqDiff, Nat.reduceAdd, Nat.reduceMul, Nat.reduceSub, Nat.reduceLT, Nat.reduceLeDiff, Int.reduceToNat, Int.reduceLT, Int.reduceLE, Int.reduceEq, Int.reduceAdd, Int.reduceSub, Int.reduceMul, Int.toNat_natCast, reduceCtorEq, decide_true, decide_false, IntWalk.i64_in, IntWalk.u64_in, IntWalk.u8_in]) (by simp (disch := omega) only [go_sem, ↓IntWalk.iteOmega, IntWalk.toNatUp, Nat.reduceEqDiff, Nat.reduceAdd, Nat.reduceMul, Nat.reduceSub, Nat.reduceLT, Nat.reduceLeDiff, Int.reduceToNat, Int.reduceLT, Int.reduceLE, Int.reduceEq, Int.reduceAdd, Int.reduceSub, Int.reduceMul, Int.toNat_natCast, reduceCtorEq, decide_true, decide_false, IntWalk.i64_in, IntWalk.u64_in, IntWalk.u8_in]) ⟨by dsimp only; omega, k5, s0, b3.n, rfl, ?_⟩
            have hz2 : z.2 = leadB kind set lo b.n b3.n out b3.state := by rw [hpA]
            have hz1 : z.1 = ((b.n : Int), (b3.n : Int)) := by rw [hpA]
            refine .inl ⟨?_, by rw [hz1, hs0], ?_⟩
            · rw [hz2, leadB_n]; show b3.n + 1 ≤ 1000; omega
            · rw [hz2, ← hs0]; exact g2.new (fun _ _ _ => rfl) (by dsimp only; omega)
        · have hm : 1000 < b3.n := hm
          have := hp3.n
          omega
      · clear h3 h7 h8 h9 h10 h0 h6
        intro a o3 nx3 b3 hnx3 hB3 hn3 hmuch h0 h6 k3
        rw [h18]
        simp only [Tryd.f41, Option.getD_some, pathC]
        simp (disch := omega) only [go_sem, ↓IntWalk.iteOmega, IntWalk.toNatUp, Nat.reduceEqDiff, Nat.reduceAdd, Nat.reduceMul, Nat.reduceSub, Nat.reduceLT, Nat.reduceLeDiff, Int.reduceToNat, Int.reduceLT, Int.reduceLE, Int.reduceEq, Int.reduceAdd, Int.reduceSub, Int.reduceMul, Int.toNat_natCast, reduceCtorEq, decide_true, decide_false, IntWalk.i64_in, IntWalk.u64_in, IntWalk.u8_in, hS, h0, h6]
        refine qstate_call (hB3.new (fun _ _ _ => rfl) (by omega)) hn3 ?_
        intro o4 nx4 hle4 hB4 hk4
        have k4 : QKeep t o nx o4 := k3.trans (fun i j (hi : i < nx3) => hk4 i j (by omega)) (by omega)
        obtain ⟨u1, u2⟩ := qState_much b3 hn3
        rw [u1] at hB4
        obtain ⟨e4, he4⟩ : ∃ e4, e4 = (qState b3 true).1 := ⟨_, rfl⟩
        rw [← he4]
        have hrow4 := hB4
        obtain ⟨vS, vF, hrow4⟩ := hrow4
        replace hrow4 := hrow4.row
        simp (disch := omega) only [go_sem, ↓IntWalk.iteOmega, IntWalk.toNatUp, Nat.reduceEqDiff, Nat.reduceAdd, Nat.reduceMul, Nat.reduceSub, Nat.reduceLT, Nat.reduceLeDiff, Int.reduceToNat, Int.reduceLT, Int.reduceLE, Int.reduceEq, Int.reduceAdd, Int.reduceSub, Int.reduceMul, Int.toNat_natCast, reduceCtorEq, decide_true, decide_false, IntWalk.i64_in, IntWalk.u64_in, IntWalk.u8_in, hrow4, h0, h6]
        exact hQ _ _ _ (.int .i64 s0, .int .i64 e4) (by simp (disch := omega) only [go_sem, ↓IntWalk.iteOmega, IntWalk.toNatUp, Nat.reduceEqDiff, Nat.reduceAdd, Nat.reduceMul, Nat.reduceSub, Nat.reduceLT, Nat.reduceLeDiff, Int.reduceToNat, Int.reduceLT, Int.reduceLE, Int.reduceEq, Int.reduceAdd, Int.reduceSub, Int.reduceMul, Int.toNat_natCast, reduceCtorEq, decide_true, decide_false, IntWalk.i64_in, IntWalk.u64_in, IntWalk.u8_in, h6]) (by simp (disch := omega) only [go_sem, ↓IntWalk.iteOmega, IntWalk.toNatUp, Nat.reduceEqDiff, Nat.reduceAdd, Nat.reduceMul, Nat.reduceSub, Nat.reduceLT, Nat.reduceLeDiff, Int.reduceToNat, Int.reduceLT, Int.reduceLE, Int.reduceEq, Int.reduceAdd, Int.reduceSub, Int.reduceMul, Int.toNat_natCast, reduceCtorEq, decide_true, decide_false, IntWalk.i64_in, IntWalk.u64_in, IntWalk.u8_in]) ⟨by dsimp only; omega, k4, s0, e4, rfl, .inr ⟨pB (by omega), _, u2, hB4.new (fun _ _ _ => rfl) (by dsimp only; omega)⟩⟩
    rw [← h18']
    by_cases k9 : kind = 9
    · rw [if_pos k9] at f5
      simp (disch := omega) only [go_sem, ↓IntWalk.iteOmega, IntWalk.toNatUp, Nat.reduceEqDiff, Nat.reduceAdd, Nat.reduceMul, Nat.reduceSub, Nat.reduceLT, Nat.reduceLeDiff, Int.reduceToNat, Int.reduceLT, Int.reduceLE, Int.reduceEq, Int.reduceAdd, Int.reduceSub, Int.reduceMul, Int.toNat_natCast, reduceCtorEq, decide_true, decide_false, IntWalk.i64_in, IntWalk.u64_in, IntWalk.u8_in, hx3, k9]
      exact loop _ _ _ _ (by omega) rfl (by simp (disch := omega) only [go_sem, ↓IntWalk.iteOmega, IntWalk.toNatUp, Nat.reduceEqDiff, Nat.reduceAdd, Nat.reduceMul, Nat.reduceSub, Nat.reduceLT, Nat.reduceLeDiff, Int.reduceToNat, Int.reduceLT, Int.reduceLE, Int.reduceEq, Int.reduceAdd, Int.reduceSub, Int.reduceMul, Int.toNat_natCast, reduceCtorEq, decide_true, decide_false, IntWalk.i64_in, IntWalk.u64_in, IntWalk.u8_in]) (by simp (disch := omega) only [go_sem, ↓IntWalk.iteOmega, IntWalk.toNatUp, Nat.reduceEqDiff, Nat.reduceAdd, Nat.reduceMul, Nat.reduceSub, Nat.reduceLT, Nat.reduceLeDiff, Int.reduceToNat, Int.reduceLT, Int.reduceLE, Int.reduceEq, Int.reduceAdd, Int.reduceSub, Int.reduceMul, Int.toNat_natCast, reduceCtorEq, decide_true, decide_false, IntWalk.i64_in, IntWalk.u64_in, IntWalk.u8_in]) (by simp (disch := omega) only [go_sem, ↓IntWalk.iteOmega, IntWalk.toNatUp, Nat.reduceEqDiff, Nat.reduceAdd, Nat.reduceMul, Nat.reduceSub, Nat.reduceLT, Nat.reduceLeDiff, Int.reduceToNat, Int.reduceLT, Int.reduceLE, Int.reduceEq, Int.reduceAdd, Int.reduceSub, Int.reduceMul, Int.toNat_natCast, reduceCtorEq, decide_true, decide_false, IntWalk.i64_in, IntWalk.u64_in, IntWalk.u8_in]) (by rw [f5]; simp (disch := omega) only [go_sem, ↓IntWalk.iteOmega, IntWalk.toNatUp, Nat.reduceEqDiff, Nat.reduceAdd, Nat.reduceMul, Nat.reduceSub, Nat.reduceLT, Nat.reduceLeDiff, Int.reduceToNat, Int.reduceLT, Int.reduceLE, Int.reduceEq, Int.reduceAdd, Int.reduceSub, Int.reduceMul, Int.toNat_natCast, reduceCtorEq, decide_true, decide_false, IntWalk.i64_in, IntWalk.u64_in, IntWalk.u8_in]) (by simp (disch := omega) only [go_sem, ↓IntWalk.iteOmega, IntWalk.toNatUp, Nat.reduceEqDiff, Nat.reduceAdd, Nat.reduceMul, Nat.reduceSub, Nat.reduceLT, Nat.reduceLeDiff, Int.reduceToNat, Int.reduceLT, Int.reduceLE, Int.reduceEq, Int.reduceAdd, Int.reduceSub, Int.reduceMul, Int.toNat_natCast, reduceCtorEq, decide_true, decide_false, IntWalk.i64_in, IntWalk.u64_in, IntWalk.u8_in]) (by simp (disch := omega) only [go_sem, ↓IntWalk.iteOmega, IntWalk.toNatUp, Nat.reduceEqDiff, Nat.reduceAdd, Nat.reduceMul, Nat.reduceSub, Nat.reduceLT, Nat.reduceLeDiff, Int.reduceToNat, Int.reduceLT, Int.reduceLE, Int.reduceEq, Int.reduceAdd, Int.reduceSub, Int.reduceMul, Int.toNat_natCast, reduceCtorEq, decide_true, decide_false, IntWalk.i64_in, IntWalk.u64_in, IntWalk.u8_in]) (by simp (disch := omega) only [go_sem, ↓IntWalk.iteOmega, IntWalk.toNatUp, Nat.reduceEqDiff, Nat.reduceAdd, Nat.reduceMul, Nat.reduceSub, Nat.reduceLT, Nat.reduceLeDiff, Int.reduceToNat, Int.reduceLT, Int.reduceLE, Int.reduceEq, Int.reduceAdd, Int.reduceSub, Int.reduceMul, Int.toNat_natCast, reduceCtorEq, decide_true, decide_false, IntWalk.i64_in, IntWalk.u64_in, IntWalk.u8_in]) (fun a o' nx' v e1 e2 hr => ⟨.inr rfl, by rw [e1, e2]; exact hr⟩)
    · rw [if_neg k9] at f5
      simp (disch := omega) only [go_sem, ↓IntWalk.iteOmega, IntWalk.toNatUp, Nat.reduceEqDiff, Nat.reduceAdd, Nat.reduceMul, Nat.reduceSub, Nat.reduceLT, Nat.reduceLeDiff, Int.reduceToNat, Int.reduceLT, Int.reduceLE, Int.reduceEq, Int.reduceAdd, Int.reduceSub, Int.reduceMul, Int.toNat_natCast, reduceCtorEq, decide_true, decide_false, IntWalk.i64_in, IntWalk.u64_in, IntWalk.u8_in, hx3, k9]
      exact loop _ _ _ _ (by omega) rfl (by simp (disch := omega) only [go_sem, ↓IntWalk.iteOmega, IntWalk.toNatUp, Nat.reduceEqDiff, Nat.reduceAdd, Nat.reduceMul, Nat.reduceSub, Nat.reduceLT, Nat.reduceLeDiff, Int.reduceToNat, Int.reduceLT, Int.reduceLE, Int.reduceEq, Int.reduceAdd, Int.reduceSub, Int.reduceMul, Int.toNat_natCast, reduceCtorEq, decide_true, decide_false, IntWalk.i64_in, IntWalk.u64_in, IntWalk.u8_in]) (by simp (disch := omega) only [go_sem, ↓IntWalk.iteOmega, IntWalk.toNatUp, Nat.reduceEqDiff, Nat.reduceAdd, Nat.reduceMul, Nat.reduceSub, Nat.reduceLT, Nat.reduceLeDiff, Int.reduceToNat, Int.reduceLT, Int.reduceLE, Int.reduceEq, Int.reduceAdd, Int.reduceSub, Int.reduceMul, Int.toNat_natCast, reduceCtorEq, decide_true, decide_false, IntWalk.i64_in, IntWalk.u64_in, IntWalk.u8_in]) (by simp (disch := omega) only [go_sem, ↓IntWalk.iteOmega, IntWalk.toNatUp, Nat.reduceEqDiff, Nat.reduceAdd, Nat.reduceMul, Nat.reduceSub, Nat.reduceLT, Nat.reduceLeDiff, Int.reduceToNat, Int.reduceLT, Int.reduceLE, Int.reduceEq, Int.reduceAdd, Int.reduceSub, Int.reduceMul, Int.toNat_natCast, reduceCtorEq, decide_true, decide_false, IntWalk.i64_in, IntWalk.u64_in, IntWalk.u8_in]) (by rw [f5]; simp (disch := omega) only [go_sem, ↓IntWalk.iteOmega, IntWalk.toNatUp, Nat.reduceEqDiff, Nat.reduceAdd, Nat.reduceMul, Nat.reduceSub, Nat.reduceLT, Nat.reduceLeDiff, Int.reduceToNat, Int.reduceLT, Int.reduceLE, Int.reduceEq, Int.reduceAdd, Int.reduceSub, Int.reduceMul, Int.toNat_natCast, reduceCtorEq, decide_true, decide_false, IntWalk.i64_in, IntWalk.u64_in, IntWalk.u8_in]) (by simp (disch := omega) only [go_sem, ↓IntWalk.iteOmega, IntWalk.toNatUp, Nat.reduceEqDiff, Nat.reduceAdd, Nat.reduceMul, Nat.reduceSub, Nat.reduceLT, Nat.reduceLeDiff, Int.reduceToNat, Int.reduceLT, Int.reduceLE, Int.reduceEq, Int.reduceAdd, Int.reduceSub, Int.reduceMul, Int.toNat_natCast, reduceCtorEq, decide_true, decide_false, IntWalk.i64_in, IntWalk.u64_in, IntWalk.u8_in]) (by simp (disch := omega) only [go_sem, ↓IntWalk.iteOmega, IntWalk.toNatUp, Nat.reduceEqDiff, Nat.reduceAdd, Nat.reduceMul, Nat.reduceSub, Nat.reduceLT, Nat.reduceLeDiff, Int.reduceToNat, Int.reduceLT, Int.reduceLE, Int.reduceEq, Int.reduceAdd, Int.reduceSub, Int.reduceMul, Int.toNat_natCast, reduceCtorEq, decide_true, decide_false, IntWalk.i64_in, IntWalk.u64_in, IntWalk.u8_in]) (by simp (disch := omega) only [go_sem, ↓IntWalk.iteOmega, IntWalk.toNatUp, Nat.reduceEqDiff, Nat.reduceAdd, Nat.reduceMul, Nat.reduceSub, Nat.reduceLT, Nat.reduceLeDiff, Int.reduceToNat, Int.reduceLT, Int.reduceLE, Int.reduceEq, Int.reduceAdd, Int.reduceSub, Int.reduceMul, Int.toNat_natCast, reduceCtorEq, decide_true, decide_false, IntWalk.i64_in, IntWalk.u64_in, IntWalk.u8_in]) (fun a o' nx' v e1 e2 hr => ⟨.inr rfl, by rw [e1, e2]; exact hr⟩))
  refine ⟨v, H', h1, fun t' b' x' e hb => ?_⟩
  simp only [List.cons.injEq, AV.ptr.injEq, Prod.mk.injEq, AV.agg.injEq, and_true] at e
  obtain ⟨⟨rfl, _⟩, e2⟩ := e
  rw [← (h.same hb).1, ← cNd_inj e2, ← hz]
  exact h2
end Go.Proofs.YthhfjjnhkifbfaaDoor.A
/- The document's builder: join; part of any tree. -/
namespace Go.Proofs.YthhfjjnhkifbfaaDoor.A
open Go
set_option maxRecDepth 20000
/-- One more of each row. -/
theorem qjoin_app {cr : CallR} {nx0 : Nat} {out : List (Int × Int)} {s e : Int} {vf vt : AV} {a : AAct} {o : Ob} {nx : Nat} {Q : WPost} (hlen : out.length ≤ 20) (hnx : nx0 ≤ nx) (h7 : a 6 = vf) (h8 : a 7 = vt) (h12 : a 9 = .int .i64 s) (h13 : a 10 = .int .i64 e) (hf : IAt 39 o nx vf (fstL out)) (ht : IAt 43 o nx vt (sndL out)) (hff : ∀ j g n, vf = .ref (j, 39) g 0 n → nx0 ≤ j) (htf : ∀ j g n, vt = .ref (j, 43) g 0 n → nx0 ≤ j)
    (hQ : ∀ a' o' nx' vf' vt', nx ≤ nx' → IAt 39 o' nx' vf' (fstL (out ++ [(s, e)])) → IAt 43 o' nx' vt' (sndL (out ++ [(s, e)])) → (∀ j g n, vf' = .ref (j, 39) g 0 n → nx0 ≤ j) → (∀ j g n, vt' = .ref (j, 43) g 0 n → nx0 ≤ j) → a' 6 = vf' → a' 7 = vt' → (∀ u, u ≠ 6 → u ≠ 7 → u < 36 → a' u = a u) → (∀ i j, i < nx0 ∨ (j ≠ 38 ∧ j ≠ 39 ∧ j ≠ 42 ∧ j ≠ 43) → o' (i, j) = o (i, j)) → Q .normal a' o' nx') :
    WP (EX md0 (fun _ _ => none)) cr 30 (fun _ => none) (pathC [1, 1, 0, 1, 0, 0, 1, 0, 0, 1] (Tryd.f51.body.getD .skip)) a o nx Q := by
  simp only [Tryd.f51, Option.getD_some, pathC]
  have hl : (fstL out).length = out.length := List.length_map ..
  have hl' : (sndL out).length = out.length := List.length_map ..
  have ep : ∀ (f g : Nat) (y1 y2 y3 y4 : AObj), nx0 ≤ f → nx0 ≤ g → ∀ i j, i < nx0 ∨ (j ≠ 38 ∧ j ≠ 39 ∧ j ≠ 42 ∧ j ≠ 43) → upd (upd (upd (upd o (nx, 38) y1) (f, 39) y2) (nx, 42) y3) (g, 43) y4 (i, j) = o (i, j) := fun f g y1 y2 y3 y4 hf hg i j h => by
    rcases h with h | ⟨a1, a2, a3, a4⟩
    · have e1 : i ≠ nx := by omega
      have e2 : i ≠ f := by omega
      have e3 : i ≠ g := by omega
      simp [upd_app, e1, e2, e3]
    · simp [upd_app, a1, a2, a3, a4]
  have tk1 : (cI (fstL out)).take out.length = cI (fstL out) := take_len (by rw [cI_length, hl])
  have tk2 : (cI (sndL out)).take out.length = cI (sndL out) := take_len (by rw [cI_length, hl'])
  have p1 : fstL (out ++ [(s, e)]) = fstL out ++ [s] := fstL_snoc ..
  have p2 : sndL (out ++ [(s, e)]) = sndL out ++ [e] := sndL_snoc ..
  have c1 : cI (fstL out ++ [s]) = cI (fstL out) ++ [.int .i64 s] := by rw [cI_app]; rfl
  have c2 : cI (sndL out ++ [e]) = cI (sndL out) ++ [.int .i64 e] := by rw [cI_app]; rfl
  have fin : ∀ (a' : AAct) (f g : Nat) (gf gg : Tag) (y1 y2 y3 y4 : AObj) (vf' vt' : AV), nx0 ≤ f → nx0 ≤ g → f ≤ nx → g ≤ nx → vf' = .ref (f, 39) gf 0 (out.length + 1) → vt' = .ref (g, 43) gg 0 (out.length + 1) → y2 = .row ⟨3, 1, gf, false, true, cI (fstL out) ++ [.int .i64 s]⟩ → y4 = .row ⟨3, 1, gg, false, true, cI (sndL out) ++ [.int .i64 e]⟩ → a' 6 = vf' → a' 7 = vt' → (∀ u, u ≠ 6 → u ≠ 7 → u < 36 → a' u = a u) → Q .normal a' (upd (upd (upd (upd o (nx, 38) y1) (f, 39) y2) (nx, 42) y3) (g, 43) y4) (nx + 1) := by
    intro a' f g gf gg y1 y2 y3 y4 vf' vt' b1 b2 b3 b4 e1 e2 e3 e4 e5 e6 e7
    refine hQ a' _ _ vf' vt' (by omega) (.inr ⟨f, gf, ?_, by omega, ?_, ?_⟩) (.inr ⟨g, gg, ?_, by omega, ?_, ?_⟩) ?_ ?_ e5 e6 e7 (ep f g y1 y2 y3 y4 b1 b2)
    · rw [e1, p1, List.length_append, hl]; rfl
    · rw [p1, c1, ← e3]; simp [upd_app]
    · rw [cI_length]; omega
    · rw [e2, p2, List.length_append, hl']; rfl
    · rw [p2, c2, ← e4]; simp [upd_app]
    · rw [cI_length]; omega
    · intro j g' n h; rw [e1] at h; injection h with h; injection h with h; omega
    · intro j g' n h; rw [e2] at h; injection h with h; injection h with h; omega
  rcases hf.fresh with ⟨rfl, hn1⟩ | ⟨i1, g1, rfl, hi1, hrow1⟩
  · have hz : out.length = 0 := by rw [← hl, hn1]; rfl
    rcases ht.fresh with ⟨rfl, hn2⟩ | ⟨i2, g2, rfl, hi2, hrow2⟩
    · simp (disch := omega) only [go_sem, ↓IntWalk.iteOmega, IntWalk.toNatUp, Nat.reduceEqDiff, Nat.reduceAdd, Nat.reduceMul, Nat.reduceSub, Nat.reduceLT, Nat.reduceLeDiff, Int.reduceToNat, Int.reduceLT, Int.reduceLE, Int.reduceEq, Int.reduceAdd, Int.reduceSub, Int.reduceMul, Int.toNat_natCast, reduceCtorEq, decide_true, decide_false, IntWalk.i64_in, IntWalk.u64_in, IntWalk.u8_in, h7, h8, h12, h13]
      exact fin _ nx nx (nx, 39) (nx, 43) _ _ _ _ (.ref (nx, 39) (nx, 39) 0 1) (.ref (nx, 43) (nx, 43) 0 1) (by omega) (by omega) (by omega) (by omega) (by rw [hz]) (by rw [hz]) (by rw [hn1]; rfl) (by rw [hn2]; rfl) (by simp (disch := omega) only [go_sem, ↓IntWalk.iteOmega, IntWalk.toNatUp, Nat.reduceEqDiff, Nat.reduceAdd, Nat.reduceMul, Nat.reduceSub, Nat.reduceLT, Nat.reduceLeDiff, Int.reduceToNat, Int.reduceLT, Int.reduceLE, Int.reduceEq, Int.reduceAdd, Int.reduceSub, Int.reduceMul, Int.toNat_natCast, reduceCtorEq, decide_true, decide_false, IntWalk.i64_in, IntWalk.u64_in, IntWalk.u8_in]) (by simp (disch := omega) only [go_sem, ↓IntWalk.iteOmega, IntWalk.toNatUp, Nat.reduceEqDiff, Nat.reduceAdd, Nat.reduceMul, Nat.reduceSub, Nat.reduceLT, Nat.reduceLeDiff, Int.reduceToNat, Int.reduceLT, Int.reduceLE, Int.reduceEq, Int.reduceAdd, Int.reduceSub, Int.reduceMul, Int.toNat_natCast, reduceCtorEq, decide_true, decide_false, IntWalk.i64_in, IntWalk.u64_in, IntWalk.u8_in]) (fun u u1 u2 u3 => by simp (disch := omega) only [go_sem, ↓IntWalk.iteOmega, IntWalk.toNatUp, Nat.reduceEqDiff, Nat.reduceAdd, Nat.reduceMul, Nat.reduceSub, Nat.reduceLT, Nat.reduceLeDiff, Int.reduceToNat, Int.reduceLT, Int.reduceLE, Int.reduceEq, Int.reduceAdd, Int.reduceSub, Int.reduceMul, Int.toNat_natCast, reduceCtorEq, decide_true, decide_false, IntWalk.i64_in, IntWalk.u64_in, IntWalk.u8_in, u1, u2])
    · have hj := htf _ _ _ rfl
      rw [hl'] at h8
      simp (disch := omega) only [go_sem, ↓IntWalk.iteOmega, IntWalk.toNatUp, Nat.reduceEqDiff, Nat.reduceAdd, Nat.reduceMul, Nat.reduceSub, Nat.reduceLT, Nat.reduceLeDiff, Int.reduceToNat, Int.reduceLT, Int.reduceLE, Int.reduceEq, Int.reduceAdd, Int.reduceSub, Int.reduceMul, Int.toNat_natCast, reduceCtorEq, decide_true, decide_false, IntWalk.i64_in, IntWalk.u64_in, IntWalk.u8_in, h7, h8, h12, h13, hrow2, hl', tk1, tk2]
      exact fin _ nx i2 (nx, 39) (nx, 43) _ _ _ _ (.ref (nx, 39) (nx, 39) 0 1) (.ref (i2, 43) (nx, 43) 0 (out.length + 1)) (by omega) (by omega) (by omega) (by omega) (by rw [hz]) rfl (by rw [hn1]; rfl) rfl (by simp (disch := omega) only [go_sem, ↓IntWalk.iteOmega, IntWalk.toNatUp, Nat.reduceEqDiff, Nat.reduceAdd, Nat.reduceMul, Nat.reduceSub, Nat.reduceLT, Nat.reduceLeDiff, Int.reduceToNat, Int.reduceLT, Int.reduceLE, Int.reduceEq, Int.reduceAdd, Int.reduceSub, Int.reduceMul, Int.toNat_natCast, reduceCtorEq, decide_true, decide_false, IntWalk.i64_in, IntWalk.u64_in, IntWalk.u8_in]) (by simp (disch := omega) only [go_sem, ↓IntWalk.iteOmega, IntWalk.toNatUp, Nat.reduceEqDiff, Nat.reduceAdd, Nat.reduceMul, Nat.reduceSub, Nat.reduceLT, Nat.reduceLeDiff, Int.reduceToNat, Int.reduceLT, Int.reduceLE, Int.reduceEq, Int.reduceAdd, Int.reduceSub, Int.reduceMul, Int.toNat_natCast, reduceCtorEq, decide_true, decide_false, IntWalk.i64_in, IntWalk.u64_in, IntWalk.u8_in]) (fun u u1 u2 u3 => by simp (disch := omega) only [go_sem, ↓IntWalk.iteOmega, IntWalk.toNatUp, Nat.reduceEqDiff, Nat.reduceAdd, Nat.reduceMul, Nat.reduceSub, Nat.reduceLT, Nat.reduceLeDiff, Int.reduceToNat, Int.reduceLT, Int.reduceLE, Int.reduceEq, Int.reduceAdd, Int.reduceSub, Int.reduceMul, Int.toNat_natCast, reduceCtorEq, decide_true, decide_false, IntWalk.i64_in, IntWalk.u64_in, IntWalk.u8_in, u1, u2])
  · have hj1 := hff _ _ _ rfl
    rw [hl] at h7
    rcases ht.fresh with ⟨rfl, hn2⟩ | ⟨i2, g2, rfl, hi2, hrow2⟩
    · have hz : out.length = 0 := by rw [← hl', hn2]; rfl
      simp (disch := omega) only [go_sem, ↓IntWalk.iteOmega, IntWalk.toNatUp, Nat.reduceEqDiff, Nat.reduceAdd, Nat.reduceMul, Nat.reduceSub, Nat.reduceLT, Nat.reduceLeDiff, Int.reduceToNat, Int.reduceLT, Int.reduceLE, Int.reduceEq, Int.reduceAdd, Int.reduceSub, Int.reduceMul, Int.toNat_natCast, reduceCtorEq, decide_true, decide_false, IntWalk.i64_in, IntWalk.u64_in, IntWalk.u8_in, h7, h8, h12, h13, hrow1, hl, tk1, tk2]
      exact fin _ i1 nx (nx, 39) (nx, 43) _ _ _ _ (.ref (i1, 39) (nx, 39) 0 (out.length + 1)) (.ref (nx, 43) (nx, 43) 0 1) (by omega) (by omega) (by omega) (by omega) rfl (by rw [hz]) rfl (by rw [hn2]; rfl) (by simp (disch := omega) only [go_sem, ↓IntWalk.iteOmega, IntWalk.toNatUp, Nat.reduceEqDiff, Nat.reduceAdd, Nat.reduceMul, Nat.reduceSub, Nat.reduceLT, Nat.reduceLeDiff, Int.reduceToNat, Int.reduceLT, Int.reduceLE, Int.reduceEq, Int.reduceAdd, Int.reduceSub, Int.reduceMul, Int.toNat_natCast, reduceCtorEq, decide_true, decide_false, IntWalk.i64_in, IntWalk.u64_in, IntWalk.u8_in]) (by simp (disch := omega) only [go_sem, ↓IntWalk.iteOmega, IntWalk.toNatUp, Nat.reduceEqDiff, Nat.reduceAdd, Nat.reduceMul, Nat.reduceSub, Nat.reduceLT, Nat.reduceLeDiff, Int.reduceToNat, Int.reduceLT, Int.reduceLE, Int.reduceEq, Int.reduceAdd, Int.reduceSub, Int.reduceMul, Int.toNat_natCast, reduceCtorEq, decide_true, decide_false, IntWalk.i64_in, IntWalk.u64_in, IntWalk.u8_in]) (fun u u1 u2 u3 => by simp (disch := omega) only [go_sem, ↓IntWalk.iteOmega, IntWalk.toNatUp, Nat.reduceEqDiff, Nat.reduceAdd, Nat.reduceMul, Nat.reduceSub, Nat.reduceLT, Nat.reduceLeDiff, Int.reduceToNat, Int.reduceLT, Int.reduceLE, Int.reduceEq, Int.reduceAdd, Int.reduceSub, Int.reduceMul, Int.toNat_natCast, reduceCtorEq, decide_true, decide_false, IntWalk.i64_in, IntWalk.u64_in, IntWalk.u8_in, u1, u2])
    · have hj := htf _ _ _ rfl
      rw [hl'] at h8
      simp (disch := omega) only [go_sem, ↓IntWalk.iteOmega, IntWalk.toNatUp, Nat.reduceEqDiff, Nat.reduceAdd, Nat.reduceMul, Nat.reduceSub, Nat.reduceLT, Nat.reduceLeDiff, Int.reduceToNat, Int.reduceLT, Int.reduceLE, Int.reduceEq, Int.reduceAdd, Int.reduceSub, Int.reduceMul, Int.toNat_natCast, reduceCtorEq, decide_true, decide_false, IntWalk.i64_in, IntWalk.u64_in, IntWalk.u8_in, h7, h8, h12, h13, hrow1, hrow2, hl, hl', tk1, tk2]
      exact fin _ i1 i2 (nx, 39) (nx, 43) _ _ _ _ (.ref (i1, 39) (nx, 39) 0 (out.length + 1)) (.ref (i2, 43) (nx, 43) 0 (out.length + 1)) (by omega) (by omega) (by omega) (by omega) rfl rfl rfl rfl (by simp (disch := omega) only [go_sem, ↓IntWalk.iteOmega, IntWalk.toNatUp, Nat.reduceEqDiff, Nat.reduceAdd, Nat.reduceMul, Nat.reduceSub, Nat.reduceLT, Nat.reduceLeDiff, Int.reduceToNat, Int.reduceLT, Int.reduceLE, Int.reduceEq, Int.reduceAdd, Int.reduceSub, Int.reduceMul, Int.toNat_natCast, reduceCtorEq, decide_true, decide_false, IntWalk.i64_in, IntWalk.u64_in, IntWalk.u8_in]) (by simp (disch := omega) only [go_sem, ↓IntWalk.iteOmega, IntWalk.toNatUp, Nat.reduceEqDiff, Nat.reduceAdd, Nat.reduceMul, Nat.reduceSub, Nat.reduceLT, Nat.reduceLeDiff, Int.reduceToNat, Int.reduceLT, Int.reduceLE, Int.reduceEq, Int.reduceAdd, Int.reduceSub, Int.reduceMul, Int.toNat_natCast, reduceCtorEq, decide_true, decide_false, IntWalk.i64_in, IntWalk.u64_in, IntWalk.u8_in]) (fun u u1 u2 u3 => by simp (disch := omega) only [go_sem, ↓IntWalk.iteOmega, IntWalk.toNatUp, Nat.reduceEqDiff, Nat.reduceAdd, Nat.reduceMul, Nat.reduceSub, Nat.reduceLT, Nat.reduceLeDiff, Int.reduceToNat, Int.reduceLT, Int.reduceLE, Int.reduceEq, Int.reduceAdd, Int.reduceSub, Int.reduceMul, Int.toNat_natCast, reduceCtorEq, decide_true, decide_false, IntWalk.i64_in, IntWalk.u64_in, IntWalk.u8_in, u1, u2])
theorem qjoin_loop {set lo hi : Int} {ks : List Nd} (hk : okNs ks = true) (hlen : ks.length ≤ 10) (hpart : ∀ x ∈ ks, ∀ t o nx b, QAt o nx t b false → QPre b → ∃ v H', QPart [bp t, nodeV x] ⟨o, nx⟩ v H') {cr : CallR} (hP : cr 41 = cRel QPart)
    {t r : Nat} {o0 : Ob} {nx0 : Nat} {b0 : BS} {a : AAct} {o : Ob} {nx : Nat} {Q : WPost} (hr : nx0 ≤ r) (hrn : r < nx) (hnx : nx0 ≤ nx) (hst : QAt o nx t b0 false) (hpre0 : QPre b0) (ho3 : o (r, 3) = some (.row ⟨54, 1, (r, 3), false, true, [.int .i64 4, .int .i64 set, .int .i64 lo, .int .i64 hi, slN ks]⟩)) (h3 : a 3 = .ptr (r, 3) (r, 3) 0) (h7 : a 6 = .nil) (h8 : a 7 = .nil) (h10 : a 8 = .int .i64 0) (h0 : a 0 = bp t) (hkp : QKeep t o0 nx0 o)
    (hQ1 : ∀ a o nx b out vf vt, nx0 ≤ nx → QAt o nx t b false → QPre b → bParts (bPartL ks) b0 [] = (out, b) → out.length = ks.length → IAt 39 o nx vf (fstL out) → IAt 43 o nx vt (sndL out) → a 6 = vf → a 7 = vt → a 0 = bp t → QKeep t o0 nx0 o → Q .normal a o nx)
    (hQ2 : ∀ a o nx b', nx0 ≤ nx → QAt o nx t b' true → b'.n ≤ 1000 → 1000 < (bParts (bPartL ks) b0 []).2.n → a 0 = bp t → QKeep t o0 nx0 o → Q .normal a o nx) :
    WP (EX md0 (fun _ _ => none)) cr 30 (fun _ => none) (pathC [1, 1, 0, 1, 0] (Tryd.f51.body.getD .skip)) a o nx (blockQ 0 Q) := by
  simp only [Tryd.f51, Option.getD_some, pathC]
  refine WP_loop (fun m a o nx => ∃ (i : Nat) (vf vt : AV), i ≤ ks.length ∧ m = ks.length - i ∧ nx0 ≤ nx ∧ r < nx ∧ a 6 = vf ∧ a 7 = vt ∧ ((∃ b out, QAt o nx t b false ∧ QPre b ∧ bParts (bPartL ks) b0 [] = bParts (bPartL (ks.drop i)) b out ∧ out.length = i ∧ IAt 39 o nx vf (fstL out) ∧ IAt 43 o nx vt (sndL out) ∧ (∀ j g n, vf = .ref (j, 39) g 0 n → nx0 ≤ j) ∧ (∀ j g n, vt = .ref (j, 43) g 0 n → nx0 ≤ j)) ∨ ∃ b', b'.n ≤ 1000 ∧ QAt o nx t b' true ∧ 1000 < (bParts (bPartL ks) b0 []).2.n) ∧ o (r, 3) = some (.row ⟨54, 1, (r, 3), false, true, [.int .i64 4, .int .i64 set, .int .i64 lo, .int .i64 hi, slN ks]⟩) ∧ a 3 = .ptr (r, 3) (r, 3) 0 ∧ a 8 = .int .i64 i ∧ a 0 = bp t ∧ QKeep t o0 nx0 o) ks.length (by omega) ⟨0, .nil, .nil, by omega, by omega, hnx, hrn, h7, h8, .inl ⟨b0, [], hst, hpre0, rfl, rfl, HS.nil, HS.nil, fun j g n h => (by cases h), fun j g n h => (by cases h)⟩, ho3, h3, h10, h0, hkp⟩ ?_
  clear hst hpre0 ho3 h3 h7 h8 h10 h0 hkp hnx hrn
  rintro m a o nx ⟨i, vf, vt, hi, rfl, hnx, hrn, h7, h8, hst, ho3, h3, h10, h0, hkp⟩
  rcases hst with ⟨b, out, hB, hpre, hbp, hout, hf, ht, hff, htf⟩ | ⟨b', hn', hB', hmuch⟩
  · have hB' := hB
    obtain ⟨vS, vF, hR⟩ := hB'
    have hrow := hR.row
    have htn := hR.lt
    by_cases hlt : i < ks.length
    · have hmem := nd_mem hlt
      have hx := okNs_get hk hlt
      have hdrop := bPartL_drop hlt
      have hat := cNds_at hlt
      obtain ⟨x, hxe⟩ : ∃ x, x = ks.getD i default := ⟨_, rfl⟩
      rw [← hxe] at hmem hx hdrop hat
      rw [hdrop, bParts_cons, if_neg (by have := hpre.n; omega)] at hbp
      obtain ⟨c6, h6⟩ : ∃ c, c = pathC [1, 1, 0, 1, 0, 0, 1, 0, 0, 1] (Tryd.f51.body.getD .skip) := ⟨_, rfl⟩
      have h6' := h6
      simp only [Tryd.f51, Option.getD_some, pathC] at h6'
      rw [← h6']
      clear h6'
      simp (disch := omega) only [go_sem, ↓IntWalk.iteOmega, IntWalk.toNatUp, Nat.reduceEqDiff, Nat.reduceAdd, Nat.reduceMul, Nat.reduceSub, Nat.reduceLT, Nat.reduceLeDiff, Int.reduceToNat, Int.reduceLT, Int.reduceLE, Int.reduceEq, Int.reduceAdd, Int.reduceSub, Int.reduceMul, Int.toNat_natCast, reduceCtorEq, decide_true, decide_false, IntWalk.i64_in, IntWalk.u64_in, IntWalk.u8_in, h0, h3, h7, h8, h10, hrow, ho3, hat, hP]
      refine qpart_call (hpart x hmem t _ _ b (hB.new (fun _ _ _ => rfl) (by omega)) hpre) (hB.new (fun _ _ _ => rfl) (by omega)) ?_
      intro s' e' o1 nx1 hle1 hk1 hres
      have k1 : QKeep t o nx o1 := fun i' j' (hi' : i' < nx) => hk1 i' j' (by omega)
      have hf1 := hf.keep (nx' := nx1) k1 (by decide) (by decide) (by decide) (by omega)
      have ht1 := ht.keep (nx' := nx1) k1 (by decide) (by decide) (by decide) (by omega)
      clear hk1
      simp (disch := omega) only [go_sem, ↓IntWalk.iteOmega, IntWalk.toNatUp, Nat.reduceEqDiff, Nat.reduceAdd, Nat.reduceMul, Nat.reduceSub, Nat.reduceLT, Nat.reduceLeDiff, Int.reduceToNat, Int.reduceLT, Int.reduceLE, Int.reduceEq, Int.reduceAdd, Int.reduceSub, Int.reduceMul, Int.toNat_natCast, reduceCtorEq, decide_true, decide_false, IntWalk.i64_in, IntWalk.u64_in, IntWalk.u8_in, h0, h3, h7, h8, h10]
      rw [h6]
      refine qjoin_app (nx0 := nx0) (out := out) (s := s') (e := e') (by omega) (by omega) (by simp (disch := omega) only [go_sem, ↓IntWalk.iteOmega, IntWalk.toNatUp, Nat.reduceEqDiff, Nat.reduceAdd, Nat.reduceMul, Nat.reduceSub, Nat.reduceLT, Nat.reduceLeDiff, Int.reduceToNat, Int.reduceLT, Int.reduceLE, Int.reduceEq, Int.reduceAdd, Int.reduceSub, Int.reduceMul, Int.toNat_natCast, reduceCtorEq, decide_true, decide_false, IntWalk.i64_in, IntWalk.u64_in, IntWalk.u8_in, h7]) (by simp (disch := omega) only [go_sem, ↓IntWalk.iteOmega, IntWalk.toNatUp, Nat.reduceEqDiff, Nat.reduceAdd, Nat.reduceMul, Nat.reduceSub, Nat.reduceLT, Nat.reduceLeDiff, Int.reduceToNat, Int.reduceLT, Int.reduceLE, Int.reduceEq, Int.reduceAdd, Int.reduceSub, Int.reduceMul, Int.toNat_natCast, reduceCtorEq, decide_true, decide_false, IntWalk.i64_in, IntWalk.u64_in, IntWalk.u8_in, h8]) (by simp (disch := omega) only [go_sem, ↓IntWalk.iteOmega, IntWalk.toNatUp, Nat.reduceEqDiff, Nat.reduceAdd, Nat.reduceMul, Nat.reduceSub, Nat.reduceLT, Nat.reduceLeDiff, Int.reduceToNat, Int.reduceLT, Int.reduceLE, Int.reduceEq, Int.reduceAdd, Int.reduceSub, Int.reduceMul, Int.toNat_natCast, reduceCtorEq, decide_true, decide_false, IntWalk.i64_in, IntWalk.u64_in, IntWalk.u8_in]) (by simp (disch := omega) only [go_sem, ↓IntWalk.iteOmega, IntWalk.toNatUp, Nat.reduceEqDiff, Nat.reduceAdd, Nat.reduceMul, Nat.reduceSub, Nat.reduceLT, Nat.reduceLeDiff, Int.reduceToNat, Int.reduceLT, Int.reduceLE, Int.reduceEq, Int.reduceAdd, Int.reduceSub, Int.reduceMul, Int.toNat_natCast, reduceCtorEq, decide_true, decide_false, IntWalk.i64_in, IntWalk.u64_in, IntWalk.u8_in]) (hf1.slot (fun _ => rfl) (by omega)) (ht1.slot (fun _ => rfl) (by omega)) hff htf ?_
      intro a' o2 nx2 vf' vt' hle2 hf2 ht2 hff2 htf2 ha6 ha7 hau ho2
      have ga0 := hau 0 (by decide) (by decide) (by decide)
      have ga3 := hau 3 (by decide) (by decide) (by decide)
      have ga8 := hau 8 (by decide) (by decide) (by decide)
      clear hau
      simp only [put_app, Nat.reduceEqDiff, if_true, if_false, h0, h3, h10] at ga0 ga3 ga8
      clear h0 h3 h7 h8 h10 h6
      simp (disch := omega) only [go_sem, ↓IntWalk.iteOmega, IntWalk.toNatUp, Nat.reduceEqDiff, Nat.reduceAdd, Nat.reduceMul, Nat.reduceSub, Nat.reduceLT, Nat.reduceLeDiff, Int.reduceToNat, Int.reduceLT, Int.reduceLE, Int.reduceEq, Int.reduceAdd, Int.reduceSub, Int.reduceMul, Int.toNat_natCast, reduceCtorEq, decide_true, decide_false, IntWalk.i64_in, IntWalk.u64_in, IntWalk.u8_in, ga0, ga3, ga8, ha6, ha7]
      have k2 : QKeep t o0 nx0 o2 := (hkp.trans k1 hnx).trans (fun i' j' hi' _ _ _ => ho2 i' j' (.inl hi')) (by omega)
      have ho32 := (ho2 r 3 (.inr (by decide))).trans (k1.row ho3 hrn (fun e => absurd e (by decide)) (by decide) (by decide))
      have hqs : ∀ b m, QAt o1 nx1 t b m → QAt o2 (nx2 + 1) t b m := fun b m h => h.slot (fun i' j' hj' => ho2 i' j' (.inr (by omega))) (by omega)
      refine ⟨_, ?_, i + 1, vf', vt', by omega, rfl, by omega, by omega, rfl, rfl, ?_, ho32, rfl, k2⟩
      · omega
      · rcases hres with ⟨u1, u2, u3⟩ | ⟨u1, b', u2, u3⟩
        · refine .inl ⟨_, out ++ [(s', e')], hqs _ _ u3, qpre_part hx.1 hpre u1, by rw [hbp, u2], by simp [hout], hf2.slot (fun _ => rfl) (by omega), ht2.slot (fun _ => rfl) (by omega), hff2, htf2⟩
        · refine .inr ⟨b', u2, hqs _ _ u3, ?_⟩
          rw [hbp]
          exact Nat.lt_of_lt_of_le u1 (bParts_lo (okNs_drop hk _) _ _)
    · have hdr : ks.drop i = [] := List.drop_of_length_le (by omega)
      rw [hdr, bPartL, bParts] at hbp
      simp (disch := omega) only [go_sem, ↓IntWalk.iteOmega, IntWalk.toNatUp, Nat.reduceEqDiff, Nat.reduceAdd, Nat.reduceMul, Nat.reduceSub, Nat.reduceLT, Nat.reduceLeDiff, Int.reduceToNat, Int.reduceLT, Int.reduceLE, Int.reduceEq, Int.reduceAdd, Int.reduceSub, Int.reduceMul, Int.toNat_natCast, reduceCtorEq, decide_true, decide_false, IntWalk.i64_in, IntWalk.u64_in, IntWalk.u8_in, h0, h3, h7, h8, h10, hrow, ho3]
      exact hQ1 _ _ _ b out vf vt (by omega) (hB.new (fun _ _ _ => rfl) (by omega)) hpre hbp (by omega) (hf.slot (fun _ => rfl) (by omega)) (ht.slot (fun _ => rfl) (by omega)) (by simp (disch := omega) only [go_sem, ↓IntWalk.iteOmega, IntWalk.toNatUp, Nat.reduceEqDiff, Nat.reduceAdd, Nat.reduceMul, Nat.reduceSub, Nat.reduceLT, Nat.reduceLeDiff, Int.reduceToNat, Int.reduceLT, Int.reduceLE, Int.reduceEq, Int.reduceAdd, Int.reduceSub, Int.reduceMul, Int.toNat_natCast, reduceCtorEq, decide_true, decide_false, IntWalk.i64_in, IntWalk.u64_in, IntWalk.u8_in, h7]) (by simp (disch := omega) only [go_sem, ↓IntWalk.iteOmega, IntWalk.toNatUp, Nat.reduceEqDiff, Nat.reduceAdd, Nat.reduceMul, Nat.reduceSub, Nat.reduceLT, Nat.reduceLeDiff, Int.reduceToNat, Int.reduceLT, Int.reduceLE, Int.reduceEq, Int.reduceAdd, Int.reduceSub, Int.reduceMul, Int.toNat_natCast, reduceCtorEq, decide_true, decide_false, IntWalk.i64_in, IntWalk.u64_in, IntWalk.u8_in, h8]) (by simp (disch := omega) only [go_sem, ↓IntWalk.iteOmega, IntWalk.toNatUp, Nat.reduceEqDiff, Nat.reduceAdd, Nat.reduceMul, Nat.reduceSub, Nat.reduceLT, Nat.reduceLeDiff, Int.reduceToNat, Int.reduceLT, Int.reduceLE, Int.reduceEq, Int.reduceAdd, Int.reduceSub, Int.reduceMul, Int.toNat_natCast, reduceCtorEq, decide_true, decide_false, IntWalk.i64_in, IntWalk.u64_in, IntWalk.u8_in, h0]) hkp
  · have hB'' := hB'
    obtain ⟨vS, vF, hR⟩ := hB''
    have hrow := hR.row
    by_cases hlt : i < ks.length
    · simp (disch := omega) only [go_sem, ↓IntWalk.iteOmega, IntWalk.toNatUp, Nat.reduceEqDiff, Nat.reduceAdd, Nat.reduceMul, Nat.reduceSub, Nat.reduceLT, Nat.reduceLeDiff, Int.reduceToNat, Int.reduceLT, Int.reduceLE, Int.reduceEq, Int.reduceAdd, Int.reduceSub, Int.reduceMul, Int.toNat_natCast, reduceCtorEq, decide_true, decide_false, IntWalk.i64_in, IntWalk.u64_in, IntWalk.u8_in, h0, h3, h7, h8, h10, hrow, ho3]
      exact hQ2 _ _ _ b' (by omega) (hB'.new (fun _ _ _ => rfl) (by omega)) hn' hmuch (by simp (disch := omega) only [go_sem, ↓IntWalk.iteOmega, IntWalk.toNatUp, Nat.reduceEqDiff, Nat.reduceAdd, Nat.reduceMul, Nat.reduceSub, Nat.reduceLT, Nat.reduceLeDiff, Int.reduceToNat, Int.reduceLT, Int.reduceLE, Int.reduceEq, Int.reduceAdd, Int.reduceSub, Int.reduceMul, Int.toNat_natCast, reduceCtorEq, decide_true, decide_false, IntWalk.i64_in, IntWalk.u64_in, IntWalk.u8_in, h0]) hkp
    · simp (disch := omega) only [go_sem, ↓IntWalk.iteOmega, IntWalk.toNatUp, Nat.reduceEqDiff, Nat.reduceAdd, Nat.reduceMul, Nat.reduceSub, Nat.reduceLT, Nat.reduceLeDiff, Int.reduceToNat, Int.reduceLT, Int.reduceLE, Int.reduceEq, Int.reduceAdd, Int.reduceSub, Int.reduceMul, Int.toNat_natCast, reduceCtorEq, decide_true, decide_false, IntWalk.i64_in, IntWalk.u64_in, IntWalk.u8_in, h0, h3, h7, h8, h10, hrow, ho3]
      exact hQ2 _ _ _ b' (by omega) (hB'.new (fun _ _ _ => rfl) (by omega)) hn' hmuch (by simp (disch := omega) only [go_sem, ↓IntWalk.iteOmega, IntWalk.toNatUp, Nat.reduceEqDiff, Nat.reduceAdd, Nat.reduceMul, Nat.reduceSub, Nat.reduceLT, Nat.reduceLeDiff, Int.reduceToNat, Int.reduceLT, Int.reduceLE, Int.reduceEq, Int.reduceAdd, Int.reduceSub, Int.reduceMul, Int.toNat_natCast, reduceCtorEq, decide_true, decide_false, IntWalk.i64_in, IntWalk.u64_in, IntWalk.u8_in, h0]) hkp
theorem qlink_loop {cr : CallR} (hF : cr 58 = cRel QFree) {t : Nat} {o0 : Ob} {nx0 : Nat} {T b : BS} {p : List (Int × Int)} {vf vt : AV} {a : AAct} {o : Ob} {nx : Nat} {Q : WPost} (hlen : p.length ≤ 10) (hpos : 0 < p.length) (hnx : nx0 ≤ nx) (hB : QAt o nx t b false) (hT : b.frees (links p) = T) (hbf : b.f.length ≤ 1000000) (hf : IAt 39 o nx vf (fstL p)) (ht : IAt 43 o nx vt (sndL p)) (h11 : a 11 = .int .i64 0)
    (hmore : a 0 = bp t ∧ a 6 = vf ∧ a 7 = vt ∧ QKeep t o0 nx0 o)
    (hQ : ∀ a o nx, nx0 ≤ nx → QAt o nx t T false → IAt 39 o nx vf (fstL p) → IAt 43 o nx vt (sndL p) → a 6 = vf → a 7 = vt → QKeep t o0 nx0 o → Q .normal a o nx) :
    WP (EX md0 (fun _ _ => none)) cr 30 (fun _ => none) (pathC [1, 1, 1, 1, 0, 1, 0] (Tryd.f51.body.getD .skip)) a o nx (blockQ 2 Q) := by
  simp only [Tryd.f51, Option.getD_some, pathC]
  refine WP_loop (fun m a o nx => ∃ (i : Nat) (b : BS), i + 1 ≤ p.length ∧ m = p.length - 1 - i ∧ nx0 ≤ nx ∧ QAt o nx t b false ∧ b.frees (links (p.drop i)) = T ∧ b.f.length ≤ 1000000 + i ∧ IAt 39 o nx vf (fstL p) ∧ IAt 43 o nx vt (sndL p) ∧ a 11 = .int .i64 i ∧ a 0 = bp t ∧ a 6 = vf ∧ a 7 = vt ∧ QKeep t o0 nx0 o) (p.length - 1) (by omega) ⟨0, b, by omega, by omega, hnx, hB, hT, by omega, hf, ht, h11, hmore⟩ ?_
  clear hmore h11 hB hT hbf hf ht hnx
  rintro m a o nx ⟨i, b, hi, rfl, hnx, hB, hT, hbf, hf, ht, h11, h0, h6, h7, hkp⟩
  have hf' := hf
  have ht' := ht
  rcases hf with ⟨_, e1, _⟩ | ⟨i1, g1, rfl, hi1, hrow1, hlen1⟩
  · simp only [List.length_map] at e1; omega
  rcases ht with ⟨_, e1, _⟩ | ⟨i2, g2, rfl, hi2, hrow2, hlen2⟩
  · simp only [List.length_map] at e1; omega
  simp only [List.length_map] at h6 h7
  by_cases hlt : i + 1 < p.length
  · have g0 := snd_get (show i < p.length by omega)
    have g1' := fst_get hlt
    rw [links_next hlt, frees_cons] at hT
    simp (disch := omega) only [go_sem, ↓IntWalk.iteOmega, IntWalk.toNatUp, Nat.reduceEqDiff, Nat.reduceAdd, Nat.reduceMul, Nat.reduceSub, Nat.reduceLT, Nat.reduceLeDiff, Int.reduceToNat, Int.reduceLT, Int.reduceLE, Int.reduceEq, Int.reduceAdd, Int.reduceSub, Int.reduceMul, Int.toNat_natCast, reduceCtorEq, decide_true, decide_false, IntWalk.i64_in, IntWalk.u64_in, IntWalk.u8_in, h0, h6, h7, h11, hrow1, hrow2, g0, g1', hF]
    refine qfree_call (hB.new (fun _ _ _ => rfl) (by omega)) _ _ (by omega) ?_
    intro o1 nx1 hle1 hB1 hk1
    have k1 : QKeep t o nx o1 := fun i j (hi : i < nx) => hk1 i j (by omega)
    simp (disch := omega) only [go_sem, ↓IntWalk.iteOmega, IntWalk.toNatUp, Nat.reduceEqDiff, Nat.reduceAdd, Nat.reduceMul, Nat.reduceSub, Nat.reduceLT, Nat.reduceLeDiff, Int.reduceToNat, Int.reduceLT, Int.reduceLE, Int.reduceEq, Int.reduceAdd, Int.reduceSub, Int.reduceMul, Int.toNat_natCast, reduceCtorEq, decide_true, decide_false, IntWalk.i64_in, IntWalk.u64_in, IntWalk.u8_in, h0, h6, h7, h11, hF]
    refine ⟨_, ?_, i + 1, _, by omega, rfl, by omega, hB1.new (fun _ _ _ => rfl) (by omega), hT, by simp only [BS.free_f, List.length_append, List.length_cons, List.length_nil]; omega, hf'.keep k1 (by decide) (by decide) (by decide) (by omega), ht'.keep k1 (by decide) (by decide) (by decide) (by omega), rfl, by simp, by simp, hkp.trans k1 hnx⟩
    omega
  · rw [links_last (by omega), frees_nil] at hT
    simp (disch := omega) only [go_sem, ↓IntWalk.iteOmega, IntWalk.toNatUp, Nat.reduceEqDiff, Nat.reduceAdd, Nat.reduceMul, Nat.reduceSub, Nat.reduceLT, Nat.reduceLeDiff, Int.reduceToNat, Int.reduceLT, Int.reduceLE, Int.reduceEq, Int.reduceAdd, Int.reduceSub, Int.reduceMul, Int.toNat_natCast, reduceCtorEq, decide_true, decide_false, IntWalk.i64_in, IntWalk.u64_in, IntWalk.u8_in, h0, h6, h7, h11, hF]
    exact hQ _ _ _ (by omega) (hT ▸ hB.new (fun _ _ _ => rfl) (by omega)) (hf'.slot (fun _ => rfl) (by omega)) (ht'.slot (fun _ => rfl) (by omega)) (by simp (disch := omega) only [go_sem, ↓IntWalk.iteOmega, IntWalk.toNatUp, Nat.reduceEqDiff, Nat.reduceAdd, Nat.reduceMul, Nat.reduceSub, Nat.reduceLT, Nat.reduceLeDiff, Int.reduceToNat, Int.reduceLT, Int.reduceLE, Int.reduceEq, Int.reduceAdd, Int.reduceSub, Int.reduceMul, Int.toNat_natCast, reduceCtorEq, decide_true, decide_false, IntWalk.i64_in, IntWalk.u64_in, IntWalk.u8_in, h6]; simp) (by simp (disch := omega) only [go_sem, ↓IntWalk.iteOmega, IntWalk.toNatUp, Nat.reduceEqDiff, Nat.reduceAdd, Nat.reduceMul, Nat.reduceSub, Nat.reduceLT, Nat.reduceLeDiff, Int.reduceToNat, Int.reduceLT, Int.reduceLE, Int.reduceEq, Int.reduceAdd, Int.reduceSub, Int.reduceMul, Int.toNat_natCast, reduceCtorEq, decide_true, decide_false, IntWalk.i64_in, IntWalk.u64_in, IntWalk.u8_in, h7]; simp) hkp
theorem lookQJoin (X) : lookedAt (EX md0 X) (fun _ => none) 2 Tryd.f51 = true := by kernel_rfl
theorem qjoin_ok {set lo hi : Int} {l : List Nd} (hk : okNs l = true) (hl : 0 < l.length ∧ l.length ≤ 10) (hpart : ∀ x ∈ l, ∀ t o nx b, QAt o nx t b false → QPre b → ∃ v H', QPart [bp t, nodeV x] ⟨o, nx⟩ v H') {t : Nat} {o : Ob} {nx : Nat} {b : BS} (h : QAt o nx t b false) (hp : QPre b) :
    ∃ v H', QJoin [bp t, nodeV (.mk 4 set lo hi l)] ⟨o, nx⟩ v H' := by
  obtain ⟨cr, hcr⟩ : ∃ cr, cr = tabLookR tabQPart := ⟨_, rfl⟩
  have hP : cr 41 = cRel QPart := by rw [hcr]; rfl
  have hF : cr 58 = cRel QFree := by rw [hcr]; rfl
  have hbr : bJoin (bPartL l) b = if (bParts (bPartL l) b []).2.n > 1000 ∨ (bParts (bPartL l) b []).1 = [] then ((0, 0), (bParts (bPartL l) b []).2) else ((((bParts (bPartL l) b []).1.headD (0, 0)).1, ((bParts (bPartL l) b []).1.getLastD (0, 0)).2), (bParts (bPartL l) b []).2.frees (links (bParts (bPartL l) b []).1)) := rfl
  obtain ⟨z, hz⟩ : ∃ z, z = bJoin (bPartL l) b := ⟨_, rfl⟩
  rw [← hz] at hbr
  obtain ⟨v, H', h1, h2⟩ := okR_of_WP (E := EX md0 (fun _ _ => none)) (cr := cr) (cp_none _) (hcr ▸ crQPart_ok) mixed (k := 30) (args := [bp t, nodeV (.mk 4 set lo hi l)]) (o := o) (nx := nx) (Post := fun v o' nx' => QRes z t v ⟨o, nx⟩ ⟨o', nx'⟩) Tryd.func51 (lookQJoin _) rfl (by
    clear hcr
    have hnew : ∀ y, ∀ i j, i < nx → upd o (nx, 3) y (i, j) = o (i, j) := fun y i j hi => by simp (disch := omega) only [upd_fst]
    simp only [Tryd.f51, Option.getD_some]
    obtain ⟨c7, h7⟩ : ∃ c, c = pathC [1, 1, 1] (Tryd.f51.body.getD .skip) := ⟨_, rfl⟩
    have h7' := h7
    simp only [Tryd.f51, Option.getD_some, pathC] at h7'
    rw [← h7']
    clear h7'
    simp (disch := omega) only [go_sem, ↓IntWalk.iteOmega, IntWalk.toNatUp, Nat.reduceEqDiff, Nat.reduceAdd, Nat.reduceMul, Nat.reduceSub, Nat.reduceLT, Nat.reduceLeDiff, Int.reduceToNat, Int.reduceLT, Int.reduceLE, Int.reduceEq, Int.reduceAdd, Int.reduceSub, Int.reduceMul, Int.toNat_natCast, reduceCtorEq, decide_true, decide_false, IntWalk.i64_in, IntWalk.u64_in, IntWalk.u8_in]
    refine qjoin_loop (set := set) (lo := lo) (hi := hi) (r := nx) (b0 := b) (o0 := o) (nx0 := nx) hk hl.2 hpart hP (Nat.le_refl nx) (by omega) (by omega) (h.new (hnew _) (by omega)) hp (upd_same _ _ _) (by simp (disch := omega) only [go_sem, ↓IntWalk.iteOmega, IntWalk.toNatUp, Nat.reduceEqDiff, Nat.reduceAdd, Nat.reduceMul, Nat.reduceSub, Nat.reduceLT, Nat.reduceLeDiff, Int.reduceToNat, Int.reduceLT, Int.reduceLE, Int.reduceEq, Int.reduceAdd, Int.reduceSub, Int.reduceMul, Int.toNat_natCast, reduceCtorEq, decide_true, decide_false, IntWalk.i64_in, IntWalk.u64_in, IntWalk.u8_in]) (by simp (disch := omega) only [go_sem, ↓IntWalk.iteOmega, IntWalk.toNatUp, Nat.reduceEqDiff, Nat.reduceAdd, Nat.reduceMul, Nat.reduceSub, Nat.reduceLT, Nat.reduceLeDiff, Int.reduceToNat, Int.reduceLT, Int.reduceLE, Int.reduceEq, Int.reduceAdd, Int.reduceSub, Int.reduceMul, Int.toNat_natCast, reduceCtorEq, decide_true, decide_false, IntWalk.i64_in, IntWalk.u64_in, IntWalk.u8_in]) (by simp (disch := omega) only [go_sem, ↓IntWalk.iteOmega, IntWalk.toNatUp, Nat.reduceEqDiff, Nat.reduceAdd, Nat.reduceMul, Nat.reduceSub, Nat.reduceLT, Nat.reduceLeDiff, Int.reduceToNat, Int.reduceLT, Int.reduceLE, Int.reduceEq, Int.reduceAdd, Int.reduceSub, Int.reduceMul, Int.toNat_natCast, reduceCtorEq, decide_true, decide_false, IntWalk.i64_in, IntWalk.u64_in, IntWalk.u8_in]) (by simp (disch := omega) only [go_sem, ↓IntWalk.iteOmega, IntWalk.toNatUp, Nat.reduceEqDiff, Nat.reduceAdd, Nat.reduceMul, Nat.reduceSub, Nat.reduceLT, Nat.reduceLeDiff, Int.reduceToNat, Int.reduceLT, Int.reduceLE, Int.reduceEq, Int.reduceAdd, Int.reduceSub, Int.reduceMul, Int.toNat_natCast, reduceCtorEq, decide_true, decide_false, IntWalk.i64_in, IntWalk.u64_in, IntWalk.u8_in]) (by simp (disch := omega) only [go_sem, ↓IntWalk.iteOmega, IntWalk.toNatUp, Nat.reduceEqDiff, Nat.reduceAdd, Nat.reduceMul, Nat.reduceSub, Nat.reduceLT, Nat.reduceLeDiff, Int.reduceToNat, Int.reduceLT, Int.reduceLE, Int.reduceEq, Int.reduceAdd, Int.reduceSub, Int.reduceMul, Int.toNat_natCast, reduceCtorEq, decide_true, decide_false, IntWalk.i64_in, IntWalk.u64_in, IntWalk.u8_in]) (QKeep.new (hnew _)) ?_ ?_
    · intro a o3 nx3 b3 out vf vt hnx3 hB3 hp3 hbp hout hf ht h6 h7a h0 k3
      rw [hbp] at hbr
      dsimp only at hbr
      have hnn := hp3.n
      have hff := hp3.f
      have hpos : 0 < out.length := by omega
      rw [if_neg (fun h => h.elim (fun h => by omega) (fun h => by rw [h] at hpos; simp at hpos))] at hbr
      rw [h7]
      simp only [Tryd.f51, Option.getD_some, pathC]
      have hrow := hB3
      obtain ⟨vS, vF, hrow⟩ := hrow
      replace hrow := hrow.row
      simp (disch := omega) only [go_sem, ↓IntWalk.iteOmega, IntWalk.toNatUp, Nat.reduceEqDiff, Nat.reduceAdd, Nat.reduceMul, Nat.reduceSub, Nat.reduceLT, Nat.reduceLeDiff, Int.reduceToNat, Int.reduceLT, Int.reduceLE, Int.reduceEq, Int.reduceAdd, Int.reduceSub, Int.reduceMul, Int.toNat_natCast, reduceCtorEq, decide_true, decide_false, IntWalk.i64_in, IntWalk.u64_in, IntWalk.u8_in, h0, h6, h7a, hrow]
      refine qlink_loop hF (p := out) (T := z.2) (b := b3) (o0 := o) (nx0 := nx) (vf := vf) (vt := vt) (by omega) hpos (by omega) (hB3.new (fun _ _ _ => rfl) (by omega)) (by rw [hbr]) (by omega) (hf.slot (fun _ => rfl) (by omega)) (ht.slot (fun _ => rfl) (by omega)) (by simp (disch := omega) only [go_sem, ↓IntWalk.iteOmega, IntWalk.toNatUp, Nat.reduceEqDiff, Nat.reduceAdd, Nat.reduceMul, Nat.reduceSub, Nat.reduceLT, Nat.reduceLeDiff, Int.reduceToNat, Int.reduceLT, Int.reduceLE, Int.reduceEq, Int.reduceAdd, Int.reduceSub, Int.reduceMul, Int.toNat_natCast, reduceCtorEq, decide_true, decide_false, IntWalk.i64_in, IntWalk.u64_in, IntWalk.u8_in]) ⟨by simp (disch := omega) only [go_sem, ↓IntWalk.iteOmega, IntWalk.toNatUp, Nat.reduceEqDiff, Nat.reduceAdd, Nat.reduceMul, Nat.reduceSub, Nat.reduceLT, Nat.reduceLeDiff, Int.reduceToNat, Int.reduceLT, Int.reduceLE, Int.reduceEq, Int.reduceAdd, Int.reduceSub, Int.reduceMul, Int.toNat_natCast, reduceCtorEq, decide_true, decide_false, IntWalk.i64_in, IntWalk.u64_in, IntWalk.u8_in, h0], by simp (disch := omega) only [go_sem, ↓IntWalk.iteOmega, IntWalk.toNatUp, Nat.reduceEqDiff, Nat.reduceAdd, Nat.reduceMul, Nat.reduceSub, Nat.reduceLT, Nat.reduceLeDiff, Int.reduceToNat, Int.reduceLT, Int.reduceLE, Int.reduceEq, Int.reduceAdd, Int.reduceSub, Int.reduceMul, Int.toNat_natCast, reduceCtorEq, decide_true, decide_false, IntWalk.i64_in, IntWalk.u64_in, IntWalk.u8_in, h6], by simp (disch := omega) only [go_sem, ↓IntWalk.iteOmega, IntWalk.toNatUp, Nat.reduceEqDiff, Nat.reduceAdd, Nat.reduceMul, Nat.reduceSub, Nat.reduceLT, Nat.reduceLeDiff, Int.reduceToNat, Int.reduceLT, Int.reduceLE, Int.reduceEq, Int.reduceAdd, Int.reduceSub, Int.reduceMul, Int.toNat_natCast, reduceCtorEq, decide_true, decide_false, IntWalk.i64_in, IntWalk.u64_in, IntWalk.u8_in, h7a], k3⟩ ?_
      clear h0 h6 h7a hrow hf ht k3 hB3
      intro a o4 nx4 hnx4 hB4 hf ht h6 h7a k4
      rcases hf with ⟨_, e1, _⟩ | ⟨i1, g1, rfl, hi1, hrow1, hlen1⟩
      · simp only [List.length_map] at e1; omega
      rcases ht with ⟨_, e1, _⟩ | ⟨i2, g2, rfl, hi2, hrow2, hlen2⟩
      · simp only [List.length_map] at e1; omega
      simp only [List.length_map] at h6 h7a
      have g0 := fst_get (p := out) (i := 0) hpos
      rw [List.drop_zero] at g0
      have g1' := snd_get (p := out) (i := out.length - 1) (by omega)
      simp (disch := omega) only [go_sem, ↓IntWalk.iteOmega, IntWalk.toNatUp, Nat.reduceEqDiff, Nat.reduceAdd, Nat.reduceMul, Nat.reduceSub, Nat.reduceLT, Nat.reduceLeDiff, Int.reduceToNat, Int.reduceLT, Int.reduceLE, Int.reduceEq, Int.reduceAdd, Int.reduceSub, Int.reduceMul, Int.toNat_natCast, reduceCtorEq, decide_true, decide_false, IntWalk.i64_in, IntWalk.u64_in, IntWalk.u8_in, h6, h7a, hrow1, hrow2, g0, g1']
      have hz1 : z.1 = ((out.headD (0, 0)).1, (out.getLastD (0, 0)).2) := by rw [hbr]
      have hh : out.getD 0 (0, 0) = out.headD (0, 0) := by cases out <;> rfl
      have hll : out.getD (out.length - 1) (0, 0) = out.getLastD (0, 0) := by
        rw [List.getLastD_eq_getLast?, List.getLast?_eq_getElem?, List.getD_eq_getElem?_getD]
      rw [hh, hll]
      refine ⟨by dsimp only; omega, k4, _, _, rfl, .inl ⟨?_, hz1.symm, hB4.new (fun _ _ _ => rfl) (by dsimp only; omega)⟩⟩
      rw [hbr]; exact hnn
    · intro a o3 nx3 b3 hnx3 hB3 hn3 hmuch h0 k3
      rw [if_pos (.inl hmuch)] at hbr
      rw [h7]
      simp only [Tryd.f51, Option.getD_some, pathC]
      have hrow := hB3
      obtain ⟨vS, vF, hrow⟩ := hrow
      replace hrow := hrow.row
      simp (disch := omega) only [go_sem, ↓IntWalk.iteOmega, IntWalk.toNatUp, Nat.reduceEqDiff, Nat.reduceAdd, Nat.reduceMul, Nat.reduceSub, Nat.reduceLT, Nat.reduceLeDiff, Int.reduceToNat, Int.reduceLT, Int.reduceLE, Int.reduceEq, Int.reduceAdd, Int.reduceSub, Int.reduceMul, Int.toNat_natCast, reduceCtorEq, decide_true, decide_false, IntWalk.i64_in, IntWalk.u64_in, IntWalk.u8_in, h0, hrow]
      exact ⟨by dsimp only; omega, k3, 0, 0, rfl, .inr ⟨by rw [hbr]; exact hmuch, b3, hn3, hB3.new (fun _ _ _ => rfl) (by dsimp only; omega)⟩⟩)
  refine ⟨v, H', h1, fun t' b' set' lo' hi' l' e hb => ?_⟩
  simp only [List.cons.injEq, AV.ptr.injEq, Prod.mk.injEq, AV.agg.injEq, and_true] at e
  obtain ⟨⟨rfl, _⟩, e2⟩ := e
  have e3 := cNd_inj e2
  injection e3 with _ _ _ _ r4
  rw [← (h.same hb).1, ← r4, ← hz]
  exact h2
theorem qpart_join {set lo hi : Int} {l : List Nd} (hk : okNs l = true) (hl : 0 < l.length ∧ l.length ≤ 10) (hpart : ∀ x ∈ l, ∀ t o nx b, QAt o nx t b false → QPre b → ∃ v H', QPart [bp t, nodeV x] ⟨o, nx⟩ v H') {t : Nat} {o : Ob} {nx : Nat} {b : BS} (h : QAt o nx t b false) (hp : QPre b) :
    ∃ v H', QPart [bp t, nodeV (.mk 4 set lo hi l)] ⟨o, nx⟩ v H' := by
  obtain ⟨cr, hcr⟩ : ∃ cr, cr = tabLookR tabQPart := ⟨_, rfl⟩
  have hJ : cr 51 = cRel QJoin := by rw [hcr]; rfl
  have hbq : bPart (.mk 4 set lo hi l) b = bJoin (bPartL l) b := by rw [bPart, bNode]; rfl
  obtain ⟨v, H', h1, h2⟩ := okR_of_WP (E := EX md0 (fun _ _ => none)) (cr := cr) (cp_none _) (hcr ▸ crQPart_ok) mixed (k := 30) (args := [bp t, nodeV (.mk 4 set lo hi l)]) (o := o) (nx := nx) (Post := fun v o' nx' => QRes (bPart (.mk 4 set lo hi l) b) t v ⟨o, nx⟩ ⟨o', nx'⟩) Tryd.func41 (lookQPart _) rfl (by
    clear hcr
    rw [hbq]
    have hnew : ∀ y, ∀ i j, i < nx → upd o (nx, 3) y (i, j) = o (i, j) := fun y i j hi => by simp (disch := omega) only [upd_fst]
    have hcn : cNd (.mk 4 set lo hi l) = [.int .i64 4, .int .i64 set, .int .i64 lo, .int .i64 hi, slN l] := cNd_mk ..
    have hrow := h
    obtain ⟨vS, vF, hrow⟩ := hrow
    have htn := hrow.lt
    replace hrow := hrow.row
    simp only [Tryd.f41, Option.getD_some]
    simp (disch := omega) only [go_sem, ↓IntWalk.iteOmega, IntWalk.toNatUp, Nat.reduceEqDiff, Nat.reduceAdd, Nat.reduceMul, Nat.reduceSub, Nat.reduceLT, Nat.reduceLeDiff, Int.reduceToNat, Int.reduceLT, Int.reduceLE, Int.reduceEq, Int.reduceAdd, Int.reduceSub, Int.reduceMul, Int.toNat_natCast, reduceCtorEq, decide_true, decide_false, IntWalk.i64_in, IntWalk.u64_in, IntWalk.u8_in, hJ, hrow]
    simp only [← hcn]
    have hBn : ∀ y n, nx ≤ n → QAt (upd o (nx, 3) y) n t b false := fun y n hn => h.new (hnew y) hn
    refine cRel_call (qjoin_ok hk hl hpart (hBn _ _ (by omega)) hp) fun v H' hr => ?_
    obtain ⟨g1, g2, s', e', rfl, g3⟩ := hr.2 t b set lo hi l rfl (hBn _ _ (by dsimp only; omega))
    obtain ⟨o5, nx5⟩ := H'
    dsimp only at g1 g2 g3
    simp (disch := omega) only [go_sem, ↓IntWalk.iteOmega, IntWalk.toNatUp, Nat.reduceEqDiff, Nat.reduceAdd, Nat.reduceMul, Nat.reduceSub, Nat.reduceLT, Nat.reduceLeDiff, Int.reduceToNat, Int.reduceLT, Int.reduceLE, Int.reduceEq, Int.reduceAdd, Int.reduceSub, Int.reduceMul, Int.toNat_natCast, reduceCtorEq, decide_true, decide_false, IntWalk.i64_in, IntWalk.u64_in, IntWalk.u8_in]
    exact ⟨by dsimp only; omega, (QKeep.new (hnew _)).trans g2 (by omega), s', e', rfl, g3.imp (fun ⟨u1, u2, u3⟩ => ⟨u1, u2, u3.new (fun _ _ _ => rfl) (by dsimp only; omega)⟩) (fun ⟨u1, b', u2, u3⟩ => ⟨u1, b', u2, u3.new (fun _ _ _ => rfl) (by dsimp only; omega)⟩)⟩)
  refine ⟨v, H', h1, fun t' b' x' e hb => ?_⟩
  simp only [List.cons.injEq, AV.ptr.injEq, Prod.mk.injEq, AV.agg.injEq, and_true] at e
  obtain ⟨⟨rfl, _⟩, e2⟩ := e
  rw [← (h.same hb).1, ← cNd_inj e2]
  exact h2
mutual
theorem qpart_all : ∀ (x : Nd), okQ x = true → ∀ (t : Nat) (o : Ob) (nx : Nat) (b : BS), QAt o nx t b false → QPre b → ∃ v H', QPart [bp t, nodeV x] ⟨o, nx⟩ v H'
  | .mk kind set lo hi l, hk, t, o, nx, b, h, hp => by
    have hl := qparts_all l
    have hk' := hk
    rw [okQ, Bool.and_eq_true] at hk'
    obtain ⟨hk1, hk2⟩ := hk'
    by_cases k4 : kind = 4
    · rw [if_pos (.inl k4), decide_eq_true_eq] at hk2
      subst k4
      exact qpart_join (okQs_Ns l hk1) hk2 (hl hk1) h hp
    · exact qpart_ok hk k4 (hl hk1) h hp
theorem qparts_all : ∀ (l : List Nd), okQs l = true → ∀ x ∈ l, ∀ (t : Nat) (o : Ob) (nx : Nat) (b : BS), QAt o nx t b false → QPre b → ∃ v H', QPart [bp t, nodeV x] ⟨o, nx⟩ v H'
  | [], _, x, hx => by cases hx
  | y :: l, hk, x, hx => by
    rw [okQs, Bool.and_eq_true] at hk
    rcases List.mem_cons.1 hx with e | hx
    · have := qpart_all y hk.1
      rw [e]; exact this
    · exact qparts_all l hk.2 x hx
end
end Go.Proofs.YthhfjjnhkifbfaaDoor.A
/- ref6.Build: the same machine. -/
namespace Go.Proofs.YthhfjjnhkifbfaaDoor.A
open Go
set_option maxRecDepth 20000
theorem lookQBuild (X) : lookedAt (EX md0 X) (fun _ => none) 1 Tryd.f26 = true := by kernel_rfl
theorem crQBuild_ok : CRSound Tryd.prog (tabLookR [(41, cRel QPart)]) ∧ Up (tabLookR [(41, cRel QPart)]) :=
  tabR_cons (tabR_nil _) fun args H v H' h => (cRel_some h).1
theorem refBuild_ok {x : Nd} (hk : okQ x = true) : Ok Tryd.prog 26 [nodeV x] (builtV (bPart x b0)) := by
  obtain ⟨cr, hcr⟩ : ∃ cr, cr = tabLookR [(41, cRel QPart)] := ⟨_, rfl⟩
  have hP : cr 41 = cRel QPart := by rw [hcr]; rfl
  refine ok_of_WP (E := EX md0 (fun _ _ => none)) (cr := cr) (cp_none _) (hcr ▸ crQBuild_ok) mixed (k := 0) Tryd.func26 (lookQBuild _) rfl ?_
  clear hcr
  simp only [Tryd.f26, Option.getD_some]
  simp (disch := omega) only [go_sem, ↓IntWalk.iteOmega, IntWalk.toNatUp, Nat.reduceEqDiff, Nat.reduceAdd, Nat.reduceMul, Nat.reduceSub, Nat.reduceLT, Nat.reduceLeDiff, Int.reduceToNat, Int.reduceLT, Int.reduceLE, Int.reduceEq, Int.reduceAdd, Int.reduceSub, Int.reduceMul, Int.toNat_natCast, reduceCtorEq, decide_true, decide_false, IntWalk.i64_in, IntWalk.u64_in, IntWalk.u8_in, hP]
  have hB0 : QAt (upd (upd (upd (fun x => none) (0, 1) (.row ⟨54, 1, (0, 1), false, true, cNd x⟩)) (0, 2) (.row ⟨41, 1, (0, 2), false, true, [.int .i64 0, .int .i64 0, .int .i64 0, .nil, .nil]⟩)) (1, 8) (.row ⟨89, 1, (1, 8), false, true, [.int .i64 0, .int .i64 0, .int .i64 0, .nil, .nil, .bool false]⟩)) 3 1 b0 false :=
    ⟨.nil, .nil, by omega, upd_same _ _ _, HS.nil, HS.nil⟩
  refine qpart_call (qpart_all x hk 1 _ _ b0 hB0 ⟨Nat.le_refl _, Nat.le_refl _, Nat.zero_le _⟩) hB0 ?_
  intro s e o1 nx1 hle1 hk1 hres
  have hx2 : o1 (0, 2) = some (.row ⟨41, 1, (0, 2), false, true, [.int .i64 0, .int .i64 0, .int .i64 0, .nil, .nil]⟩) := by rw [hk1 _ _ (by omega) (fun e => absurd e (by decide)) (by decide) (by decide)]; simp [upd_app]
  clear hB0 hk1
  obtain ⟨r, hr⟩ : ∃ r, r = bPart x b0 := ⟨_, rfl⟩
  rw [← hr] at hres ⊢
  rcases hres with ⟨u1, u2, u3⟩ | ⟨u1, b', u2, u3⟩
  · have e1 : builtV r = .tup [nfaV r.2.n s e r.2.s r.2.f, .int .i64 0] := by rw [builtV, if_neg (by omega), ← u2]
    rw [e1]
    obtain ⟨vS, vF, hB⟩ := u3
    have r1 := hB.lt
    have r2 := hB.row
    have r3 := hB.s.ok
    have r4 := hB.f.ok
    have s0 := cS_inj (x := r.2.s) (y := [])
    have f0 := cP_inj (x := r.2.f) (y := [])
    rcases hB.s with ⟨rfl, q2, q3⟩ | ⟨i1, g1, rfl, hi1, hrow, hlen⟩
    · rcases hB.f with ⟨rfl, q5, q6⟩ | ⟨i2, g2, rfl, hi2, hrow2, hlen2⟩
      · simp (disch := omega) only [go_sem, ↓IntWalk.iteOmega, IntWalk.toNatUp, Nat.reduceEqDiff, Nat.reduceAdd, Nat.reduceMul, Nat.reduceSub, Nat.reduceLT, Nat.reduceLeDiff, Int.reduceToNat, Int.reduceLT, Int.reduceLE, Int.reduceEq, Int.reduceAdd, Int.reduceSub, Int.reduceMul, Int.toNat_natCast, reduceCtorEq, decide_true, decide_false, IntWalk.i64_in, IntWalk.u64_in, IntWalk.u8_in, hx2, r2]
        rw [s0 q3, f0 q6]
        rfl
      · simp (disch := omega) only [go_sem, ↓IntWalk.iteOmega, IntWalk.toNatUp, Nat.reduceEqDiff, Nat.reduceAdd, Nat.reduceMul, Nat.reduceSub, Nat.reduceLT, Nat.reduceLeDiff, Int.reduceToNat, Int.reduceLT, Int.reduceLE, Int.reduceEq, Int.reduceAdd, Int.reduceSub, Int.reduceMul, Int.toNat_natCast, reduceCtorEq, decide_true, decide_false, IntWalk.i64_in, IntWalk.u64_in, IntWalk.u8_in, hx2, r2, hrow2]
        rw [s0 q3]
        rfl
    · rcases hB.f with ⟨rfl, q5, q6⟩ | ⟨i2, g2, rfl, hi2, hrow2, hlen2⟩
      · simp (disch := omega) only [go_sem, ↓IntWalk.iteOmega, IntWalk.toNatUp, Nat.reduceEqDiff, Nat.reduceAdd, Nat.reduceMul, Nat.reduceSub, Nat.reduceLT, Nat.reduceLeDiff, Int.reduceToNat, Int.reduceLT, Int.reduceLE, Int.reduceEq, Int.reduceAdd, Int.reduceSub, Int.reduceMul, Int.toNat_natCast, reduceCtorEq, decide_true, decide_false, IntWalk.i64_in, IntWalk.u64_in, IntWalk.u8_in, hx2, r2, hrow]
        rw [f0 q6]
        rfl
      · simp (disch := omega) only [go_sem, ↓IntWalk.iteOmega, IntWalk.toNatUp, Nat.reduceEqDiff, Nat.reduceAdd, Nat.reduceMul, Nat.reduceSub, Nat.reduceLT, Nat.reduceLeDiff, Int.reduceToNat, Int.reduceLT, Int.reduceLE, Int.reduceEq, Int.reduceAdd, Int.reduceSub, Int.reduceMul, Int.toNat_natCast, reduceCtorEq, decide_true, decide_false, IntWalk.i64_in, IntWalk.u64_in, IntWalk.u8_in, hx2, r2, hrow, hrow2]
  · have e1 : builtV r = .tup [nfaV 0 0 0 [] [], .int .i64 4] := by rw [builtV, if_pos u1]
    rw [e1]
    obtain ⟨vS, vF, hB⟩ := u3
    have r2 := hB.row
    simp (disch := omega) only [go_sem, ↓IntWalk.iteOmega, IntWalk.toNatUp, Nat.reduceEqDiff, Nat.reduceAdd, Nat.reduceMul, Nat.reduceSub, Nat.reduceLT, Nat.reduceLeDiff, Int.reduceToNat, Int.reduceLT, Int.reduceLE, Int.reduceEq, Int.reduceAdd, Int.reduceSub, Int.reduceMul, Int.toNat_natCast, reduceCtorEq, decide_true, decide_false, IntWalk.i64_in, IntWalk.u64_in, IntWalk.u8_in, hx2, r2]
    rfl
end Go.Proofs.YthhfjjnhkifbfaaDoor.A
/- What is built is a machine that may be; raw expressions' trees. -/
namespace Go.Proofs.YthhfjjnhkifbfaaDoor.A
open Go
set_option maxRecDepth 20000
def InN (n : Nat) (v : Int) : Prop := 0 ≤ v ∧ v < (n : Int)
theorem InN.mono {n n' : Nat} {v : Int} (h : InN n v) (hn : n ≤ n') : InN n' v := ⟨h.1, by have := h.2; omega⟩
structure WB (b : BS) : Prop where
  f : ∀ p ∈ b.f, InN b.n p.1 ∧ InN b.n p.2
  s : ∀ q ∈ b.s, InN b.n q.1 ∧ InN b.n q.2.1 ∧ 1 ≤ q.2.2 ∧ q.2.2 ≤ 31
theorem WB.state {b : BS} (h : WB b) : WB b.state := ⟨fun p hp => ⟨(h.f p hp).1.mono (Nat.le_succ _), (h.f p hp).2.mono (Nat.le_succ _)⟩, fun q hq => ⟨(h.s q hq).1.mono (Nat.le_succ _), (h.s q hq).2.1.mono (Nat.le_succ _), (h.s q hq).2.2⟩⟩
theorem WB.frees {b : BS} (h : WB b) {l : List (Int × Int)} (hl : ∀ p ∈ l, InN b.n p.1 ∧ InN b.n p.2) : WB (b.frees l) := ⟨fun p hp => by
  rcases List.mem_append.1 hp with hp | hp
  · exact h.f p hp
  · exact hl p hp, h.s⟩
def GoodF (f : BF) : Prop := ∀ b, WB b → WB (f b).2 ∧ InN (f b).2.n (f b).1.1 ∧ InN (f b).2.n (f b).1.2 ∧ b.n ≤ (f b).2.n
theorem parts_good : ∀ (fs : List BF) (b : BS) (out : List (Int × Int)), (∀ f ∈ fs, GoodF f) → WB b → (∀ p ∈ out, InN b.n p.1 ∧ InN b.n p.2) → WB (bParts fs b out).2 ∧ (∀ p ∈ (bParts fs b out).1, InN (bParts fs b out).2.n p.1 ∧ InN (bParts fs b out).2.n p.2) ∧ b.n ≤ (bParts fs b out).2.n ∧ (fs ≠ [] → 0 < (bParts fs b out).2.n)
  | [], b, out, _, hb, ho => ⟨hb, ho, Nat.le_refl _, fun h => absurd rfl h⟩
  | f :: fs, b, out, hf, hb, ho => by
    rw [bParts]
    by_cases hn : b.n > 1000
    · rw [if_pos hn]
      exact ⟨hb, fun p hp => (by cases hp), Nat.le_refl _, fun _ => by show 0 < b.n; omega⟩
    · rw [if_neg hn]
      obtain ⟨h1, h2, h3, h4⟩ := hf f List.mem_cons_self b hb
      obtain ⟨g1, g2, g3, _⟩ := parts_good fs (f b).2 (out ++ [(f b).1]) (fun g hg => hf g (List.mem_cons_of_mem _ hg)) h1 (fun p hp => by
        rcases List.mem_append.1 hp with hp | hp
        · exact ⟨(ho p hp).1.mono h4, (ho p hp).2.mono h4⟩
        · rw [List.mem_singleton.1 hp]; exact ⟨h2, h3⟩)
      exact ⟨g1, g2, Nat.le_trans h4 g3, fun _ => by have := h2.1; have := h2.2; omega⟩
theorem in_self (n : Nat) : InN (n + 1) (n : Int) := ⟨by omega, by omega⟩
theorem once_good {f : BF} (hf : GoodF f) (ar bk : Bool) : GoodF (bOnce f ar bk) := by
  intro b hb
  obtain ⟨h1, h2, h3, h4⟩ := hf b.state hb.state
  have e1 : b.state.n = b.n + 1 := rfl
  have e2 : (f b.state).2.state.n = (f b.state).2.n + 1 := rfl
  have i0 : InN (f b.state).2.state.n (b.n : Int) := ⟨by omega, by rw [e2]; omega⟩
  have i1 : InN (f b.state).2.state.n ((f b.state).2.n : Int) := by rw [e2]; exact in_self _
  have i2 := h2.mono (n' := (f b.state).2.state.n) (by rw [e2]; omega)
  have i3 := h3.mono (n' := (f b.state).2.state.n) (by rw [e2]; omega)
  refine ⟨h1.state.frees (fun p hp => ?_), i0, i1, by show b.n ≤ (f b.state).2.n + 1; omega⟩
  simp only [List.mem_append] at hp
  rcases hp with ((hp | hp) | hp) | hp
  · rw [List.mem_singleton.1 hp]; exact ⟨i0, i2⟩
  · split at hp
    · rw [List.mem_singleton.1 hp]; exact ⟨i0, i1⟩
    · cases hp
  · split at hp
    · rw [List.mem_singleton.1 hp]; exact ⟨i3, i2⟩
    · cases hp
  · rw [List.mem_singleton.1 hp]; exact ⟨i3, i1⟩
theorem links_good {n : Nat} : ∀ (l : List (Int × Int)), (∀ p ∈ l, InN n p.1 ∧ InN n p.2) → ∀ p ∈ links l, InN n p.1 ∧ InN n p.2
  | [], _, p, hp => by rw [links] at hp; cases hp; intro _ _ _ h; cases h
  | [_], _, p, hp => by rw [links] at hp; cases hp; intro _ _ _ h; cases h
  | a :: b :: l, h, p, hp => by
    rw [links] at hp
    rcases List.mem_cons.1 hp with rfl | hp
    · exact ⟨(h a List.mem_cons_self).2, (h b (List.mem_cons_of_mem _ List.mem_cons_self)).1⟩
    · exact links_good (b :: l) (fun p hp => h p (List.mem_cons_of_mem _ hp)) p hp
theorem rLinks_good {n : Nat} {lo e : Int} (he : InN n e) : ∀ (i : Nat) (l : List (Int × Int)), (∀ p ∈ l, InN n p.1 ∧ InN n p.2) → ∀ p ∈ rLinks lo e i l, InN n p.1 ∧ InN n p.2
  | i, [], _, p, hp => by rw [rLinks] at hp; cases hp
  | i, [a], h, p, hp => by rw [rLinks] at hp; rw [List.mem_singleton.1 hp]; exact ⟨(h a List.mem_cons_self).2, he⟩
  | i, a :: b :: l, h, p, hp => by
    rw [rLinks] at hp
    rcases List.mem_append.1 hp with hp | hp
    · split at hp
      · rw [List.mem_singleton.1 hp]; exact ⟨(h a List.mem_cons_self).2, he⟩
      · cases hp
    · rcases List.mem_cons.1 hp with rfl | hp
      · exact ⟨(h a List.mem_cons_self).2, (h b (List.mem_cons_of_mem _ List.mem_cons_self)).1⟩
      · exact rLinks_good he (i + 1) (b :: l) (fun p hp => h p (List.mem_cons_of_mem _ hp)) p hp
theorem rep_good {f : BF} (hf : GoodF f) (lo : Int) (k : Nat) : GoodF (bRepeat lo k f) := by
  intro b hb
  obtain ⟨h1, h2, h3, _⟩ := parts_good (List.replicate k f) b.state [] (fun g hg => by rw [List.eq_of_mem_replicate hg]; exact hf) hb.state (fun p hp => by cases hp)
  have hbr : bRepeat lo k f b = if (bParts (List.replicate k f) b.state []).2.state.n > 1000 then (((b.n : Int), ((bParts (List.replicate k f) b.state []).2.n : Int)), (bParts (List.replicate k f) b.state []).2.state) else (((b.n : Int), ((bParts (List.replicate k f) b.state []).2.n : Int)), (bParts (List.replicate k f) b.state []).2.state.frees (headL b.n (bParts (List.replicate k f) b.state []).1 ++ rLinks lo (bParts (List.replicate k f) b.state []).2.n 0 (bParts (List.replicate k f) b.state []).1 ++ (if lo = 0 then [((b.n : Int), ((bParts (List.replicate k f) b.state []).2.n : Int))] else []))) := rfl
  obtain ⟨r, hr⟩ : ∃ r, r = bParts (List.replicate k f) b.state [] := ⟨_, rfl⟩
  rw [← hr] at h1 h2 h3 hbr
  have e1 : b.state.n = b.n + 1 := rfl
  have e2 : r.2.state.n = r.2.n + 1 := rfl
  have i0 : InN r.2.state.n (b.n : Int) := ⟨by omega, by rw [e2]; omega⟩
  have i1 : InN r.2.state.n (r.2.n : Int) := by rw [e2]; exact in_self _
  have h2' : ∀ p ∈ r.1, InN r.2.state.n p.1 ∧ InN r.2.state.n p.2 := fun p hp => ⟨(h2 p hp).1.mono (by rw [e2]; omega), (h2 p hp).2.mono (by rw [e2]; omega)⟩
  rw [hbr]
  split
  · exact ⟨h1.state, i0, i1, by show b.n ≤ r.2.n + 1; omega⟩
  · refine ⟨h1.state.frees (fun p hp => ?_), i0, i1, by show b.n ≤ r.2.n + 1; omega⟩
    rcases List.mem_append.1 hp with hp | hp
    · rcases List.mem_append.1 hp with hp | hp
      · cases hr1 : r.1 with
        | nil => rw [hr1] at hp; cases hp
        | cons a l =>
          rw [hr1] at hp h2'
          rw [List.mem_singleton.1 hp]
          exact ⟨i0, (h2' a List.mem_cons_self).1⟩
      · exact rLinks_good i1 0 r.1 h2' p hp
    · split at hp
      · rw [List.mem_singleton.1 hp]; exact ⟨i0, i1⟩
      · cases hp
theorem union_good {fs : List BF} (hf : ∀ f ∈ fs, GoodF f) : GoodF (bUnion fs) := by
  intro b hb
  obtain ⟨h1, h2, h3, _⟩ := parts_good fs b.state [] hf hb.state (fun p hp => by cases hp)
  have hbr : bUnion fs b = (((b.n : Int), ((bParts fs b.state []).2.n : Int)), (bParts fs b.state []).2.state.frees (uLinks b.n (bParts fs b.state []).2.n (bParts fs b.state []).1)) := rfl
  obtain ⟨r, hr⟩ : ∃ r, r = bParts fs b.state [] := ⟨_, rfl⟩
  rw [← hr] at h1 h2 h3 hbr
  have e1 : b.state.n = b.n + 1 := rfl
  have e2 : r.2.state.n = r.2.n + 1 := rfl
  have i0 : InN r.2.state.n (b.n : Int) := ⟨by omega, by rw [e2]; omega⟩
  have i1 : InN r.2.state.n (r.2.n : Int) := by rw [e2]; exact in_self _
  rw [hbr]
  refine ⟨h1.state.frees (fun p hp => ?_), i0, i1, by show b.n ≤ r.2.n + 1; omega⟩
  obtain ⟨q, hq, hp⟩ := List.mem_flatMap.1 hp
  have q1 := (h2 q hq).1.mono (n' := r.2.state.n) (by rw [e2]; omega)
  have q2 := (h2 q hq).2.mono (n' := r.2.state.n) (by rw [e2]; omega)
  rcases List.mem_cons.1 hp with rfl | hp
  · exact ⟨i0, q1⟩
  · rw [List.mem_singleton.1 hp]; exact ⟨q2, i1⟩
theorem getLastD_mem {α : Type} {l : List α} (h : l ≠ []) (d : α) : l.getLastD d ∈ l := by
  rw [List.getLastD_eq_getLast?, List.getLast?_eq_some_getLast h]
  exact List.getLast_mem h
theorem join_good {fs : List BF} (hf : ∀ f ∈ fs, GoodF f) (hne : fs ≠ []) : GoodF (bJoin fs) := by
  intro b hb
  obtain ⟨h1, h2, h3, h4⟩ := parts_good fs b [] hf hb (fun p hp => by cases hp)
  have hbr : bJoin fs b = if (bParts fs b []).2.n > 1000 ∨ (bParts fs b []).1 = [] then ((0, 0), (bParts fs b []).2) else ((((bParts fs b []).1.headD (0, 0)).1, ((bParts fs b []).1.getLastD (0, 0)).2), (bParts fs b []).2.frees (links (bParts fs b []).1)) := rfl
  obtain ⟨r, hr⟩ : ∃ r, r = bParts fs b [] := ⟨_, rfl⟩
  rw [← hr] at h1 h2 h3 h4 hbr
  have hpos := h4 hne
  rw [hbr]
  split
  · exact ⟨h1, ⟨Int.le_refl _, by show (0 : Int) < r.2.n; omega⟩, ⟨Int.le_refl _, by show (0 : Int) < r.2.n; omega⟩, h3⟩
  · rename_i hc
    have hne' : r.1 ≠ [] := fun e => hc (.inr e)
    refine ⟨h1.frees (links_good r.1 h2), ?_, ?_, h3⟩
    · cases hr1 : r.1 with
      | nil => exact absurd hr1 hne'
      | cons a l => rw [hr1] at h2; exact (h2 a List.mem_cons_self).1
    · exact (h2 _ (getLastD_mem hne' _)).2
mutual
/-- The sets of its signs may be. -/
def okS : Nd → Bool
  | .mk kind set _ _ l => okSs l && (if kind = 1 then decide (1 ≤ set ∧ set ≤ 31) else true)
def okSs : List Nd → Bool
  | [] => true
  | x :: l => okS x && okSs l
end
theorem leaf_good {kind set : Int} (h : kind = 1 → 1 ≤ set ∧ set ≤ 31) : GoodF (bLeaf kind set) := by
  intro b hb
  have i0 : InN (b.n + 1 + 1) (b.n : Int) := ⟨by omega, by omega⟩
  have i1 : InN (b.n + 1 + 1) ((b.n : Int) + 1) := ⟨by omega, by omega⟩
  have hw := hb.state.state
  unfold bLeaf
  dsimp only
  by_cases k1 : kind = 1
  · rw [if_pos k1]
    refine ⟨⟨hw.f, fun q hq => ?_⟩, i0, i1, by show b.n ≤ b.n + 1 + 1; omega⟩
    rcases List.mem_append.1 hq with hq | hq
    · exact hw.s q hq
    · rw [List.mem_singleton.1 hq]; exact ⟨i0, i1, h k1⟩
  rw [if_neg k1]
  split
  · refine ⟨⟨fun p hp => ?_, hw.s⟩, i0, i1, by show b.n ≤ b.n + 1 + 1; omega⟩
    rcases List.mem_append.1 hp with hp | hp
    · exact hw.f p hp
    · rw [List.mem_singleton.1 hp]; exact ⟨i0, i1⟩
  · exact ⟨hw, i0, i1, by show b.n ≤ b.n + 1 + 1; omega⟩
mutual
theorem part_good : ∀ (x : Nd), okN x = true → okS x = true → GoodF (bPart x)
  | .mk kind set lo hi l, hk, hs => by
    rw [okN, Bool.and_eq_true] at hk
    rw [okS, Bool.and_eq_true] at hs
    obtain ⟨hk1, hk2⟩ := hk
    have hl := parts_good' l hk1 hs.1
    rw [bPart]
    have hd : 0 < l.length → GoodF ((bPartL l).headD fun b => ((0, 0), b)) := fun h => by
      cases l with
      | nil => exact absurd h (by simp)
      | cons x l => exact hl _ (by rw [bPartL]; exact List.mem_cons_self)
    have hne : 0 < l.length → bPartL l ≠ [] := fun h e => by
      have := congrArg List.length e
      rw [bPartL_length] at this
      simp only [List.length_nil] at this; omega
    unfold bNode
    by_cases k4 : kind = 4
    · rw [if_pos k4]
      rw [if_pos (.inl k4), decide_eq_true_eq] at hk2
      exact join_good hl (hne hk2.1)
    by_cases k5 : kind = 5
    · rw [if_neg k4, if_pos k5]
      exact union_good hl
    by_cases k6 : kind = 6
    · rw [if_neg k4, if_neg k5, if_pos k6]
      rw [if_pos (.inr (.inr (.inl k6))), decide_eq_true_eq] at hk2
      exact once_good (hd hk2.1) _ _
    by_cases k7 : kind = 7
    · rw [if_neg k4, if_neg k5, if_neg k6, if_pos k7]
      rw [if_pos (.inr (.inr (.inr (.inl k7)))), decide_eq_true_eq] at hk2
      exact once_good (hd hk2.1) _ _
    by_cases k8 : kind = 8
    · rw [if_neg k4, if_neg k5, if_neg k6, if_neg k7, if_pos k8]
      rw [if_pos (.inr (.inr (.inr (.inr k8)))), decide_eq_true_eq] at hk2
      exact once_good (hd hk2.1) _ _
    by_cases k9 : kind = 9
    · rw [if_neg k4, if_neg k5, if_neg k6, if_neg k7, if_neg k8, if_pos k9]
      rw [if_neg (by omega), if_pos k9, decide_eq_true_eq] at hk2
      exact rep_good (hd hk2.1) _ _
    rw [if_neg k4, if_neg k5, if_neg k6, if_neg k7, if_neg k8, if_neg k9]
    exact leaf_good (fun k1 => by have := hs.2; rw [if_pos k1, decide_eq_true_eq] at this; exact this)
theorem parts_good' : ∀ (l : List Nd), okNs l = true → okSs l = true → ∀ f ∈ bPartL l, GoodF f
  | [], _, _, f, hf => by rw [bPartL] at hf; cases hf
  | x :: l, hk, hs, f, hf => by
    rw [okNs, Bool.and_eq_true] at hk
    rw [okSs, Bool.and_eq_true] at hs
    rw [bPartL] at hf
    rcases List.mem_cons.1 hf with e | hf
    · have := part_good x hk.1 hs.1
      rw [e]; exact this
    · exact parts_good' l hk.2 hs.2 f hf
end
theorem wb0 : WB b0 := ⟨fun p hp => (by cases hp), fun q hq => (by cases hq)⟩
theorem built_wf {x : Nd} (hk : okN x = true) (hs : okS x = true) (hn : (bPart x b0).2.n ≤ 1000) : Wf (bPart x b0).2.n (bPart x b0).1.1 (bPart x b0).1.2 (bPart x b0).2.s (bPart x b0).2.f ∧ (bPart x b0).2.s.length ≤ 1000 := by
  obtain ⟨hw, h1, h2, _⟩ := part_good x hk hs b0 wb0
  have hbd := part_bd x hk b0
  have b4 := hbd.f4
  have b5 := hbd.s1
  have z1 : b0.n = 0 := rfl
  have z2 : b0.f.length = 0 := rfl
  have z3 : b0.s.length = 0 := rfl
  exact ⟨⟨hn, h1, h2, by omega, by omega, fun p hp => ⟨(hw.s p hp).1, (hw.s p hp).2.1⟩, fun p hp => hw.f p hp⟩, by omega⟩
end Go.Proofs.YthhfjjnhkifbfaaDoor.A
/- Raw expressions' trees are right; ref6.Same. -/
namespace Go.Proofs.YthhfjjnhkifbfaaDoor.A
open Go
set_option maxRecDepth 20000
theorem sign_in (x : Int) : 1 ≤ sign x ∧ sign x ≤ 31 := by
  have h1 := Int.emod_nonneg x (show (5 : Int) ≠ 0 by decide)
  have h2 := Int.emod_lt_of_pos x (show (0 : Int) < 5 by decide)
  unfold sign
  obtain ⟨m, hm⟩ : ∃ m, m = x % 5 := ⟨_, rfl⟩
  rw [← hm] at h1 h2 ⊢
  have : m = 0 ∨ m = 1 ∨ m = 2 ∨ m = 3 ∨ m = 4 := by omega
  rcases this with rfl | rfl | rfl | rfl | rfl <;> decide
/-- Right, and not high. -/
def okT (h : Nat) (x : Nd) : Prop := okQ x = true ∧ okS x = true ∧ hN x ≤ h
theorem okT.mono {h h' x} (hx : okT h x) (hh : h ≤ h') : okT h' x := ⟨hx.1, hx.2.1, Nat.le_trans hx.2.2 hh⟩
theorem okT_leaf {set : Int} (h : 1 ≤ set ∧ set ≤ 31) : okT 1 (.mk 1 set 0 0 []) := by
  refine ⟨by rw [okQ, okQs]; rfl, ?_, by rw [hN, hNs]; omega⟩
  rw [okS, okSs, if_pos rfl, Bool.true_and, decide_eq_true_eq]; exact h
theorem okT_list : ∀ (l : List Nd) (h : Nat), (∀ x ∈ l, okT h x) → okQs l = true ∧ okSs l = true ∧ hNs l ≤ h
  | [], h, _ => ⟨by rw [okQs], by rw [okSs], by rw [hNs]; omega⟩
  | x :: l, h, hl => by
    obtain ⟨h1, h2, h3⟩ := hl x List.mem_cons_self
    obtain ⟨g1, g2, g3⟩ := okT_list l h (fun y hy => hl y (List.mem_cons_of_mem _ hy))
    rw [okQs, okSs, hNs, h1, h2, g1, g2]
    exact ⟨rfl, rfl, by omega⟩
theorem partN_ok (n : Int) (ls : List Nd) (h : Nat) (h1 : 1 ≤ h) (hl : ∀ x ∈ ls, okT h x) (i : Nat) : okT h (partN n ls i) := by
  unfold partN
  split
  · rename_i hi; exact hl _ (nd_mem hi)
  · exact (okT_leaf (sign_in _)).mono h1
theorem many_ok (n : Int) (ls : List Nd) (h : Nat) (h1 : 1 ≤ h) (hl : ∀ x ∈ ls, okT h x) (k : Nat) : ∀ x ∈ (List.range k).map (partN n ls), okT h x := by
  intro x hx
  obtain ⟨i, _, rfl⟩ := List.mem_map.1 hx
  exact partN_ok n ls h h1 hl i
theorem many4_le (n : Nat) : 2 ≤ many4 n ∧ many4 n ≤ 4 := by unfold many4; split <;> (try split) <;> omega
theorem buildN_ok (k n : Int) (ls : List Nd) (h : Nat) (h1 : 1 ≤ h) (hl : ∀ x ∈ ls, okT h x) : okT (h + 1) (buildN k n ls) := by
  have hm := many4_le ls.length
  have hp0 := partN_ok n ls h h1 hl 0
  have n4 : 0 ≤ n % 4 ∧ n % 4 < 4 := ⟨Int.emod_nonneg _ (by decide), Int.emod_lt_of_pos _ (by decide)⟩
  have n3 : 0 ≤ IntKind.i64.wrap (n.tdiv 4) % 3 ∧ IntKind.i64.wrap (n.tdiv 4) % 3 < 3 := ⟨Int.emod_nonneg _ (by decide), Int.emod_lt_of_pos _ (by decide)⟩
  have n31 : 0 ≤ n % 31 ∧ n % 31 < 31 := ⟨Int.emod_nonneg _ (by decide), Int.emod_lt_of_pos _ (by decide)⟩
  have hlist := okT_list _ h (many_ok n ls h h1 hl (many4 ls.length))
  have hlen : ((List.range (many4 ls.length)).map (partN n ls)).length = many4 ls.length := by simp
  have one : okQs [partN n ls 0] = true ∧ okSs [partN n ls 0] = true ∧ hNs [partN n ls 0] ≤ h := okT_list _ h (fun x hx => by rw [List.mem_singleton.1 hx]; exact hp0)
  unfold buildN
  repeat' split
  · exact (okT_leaf ⟨by omega, by omega⟩).mono (by omega)
  · exact (okT_leaf (sign_in _)).mono (by omega)
  · exact ⟨by rw [okQ, okQs]; rfl, by rw [okS, okSs]; rfl, by rw [hN, hNs]; omega⟩
  · exact ⟨by rw [okQ, okQs]; rfl, by rw [okS, okSs]; rfl, by rw [hN, hNs]; omega⟩
  · exact ⟨by rw [okQ, hlist.1, if_pos (.inl rfl), hlen, Bool.true_and, decide_eq_true_eq]; omega, by rw [okS, hlist.2.1]; rfl, by rw [hN]; omega⟩
  · exact ⟨by rw [okQ, hlist.1, if_pos (.inr rfl), hlen, Bool.true_and, decide_eq_true_eq]; omega, by rw [okS, hlist.2.1]; rfl, by rw [hN]; omega⟩
  · exact ⟨by rw [okQ, one.1]; rfl, by rw [okS, one.2.1]; rfl, by rw [hN]; omega⟩
  · exact ⟨by rw [okQ, one.1]; rfl, by rw [okS, one.2.1]; rfl, by rw [hN]; omega⟩
  · exact ⟨by rw [okQ, one.1]; rfl, by rw [okS, one.2.1]; rfl, by rw [hN]; omega⟩
  · refine ⟨?_, by rw [okS, one.2.1]; rfl, by rw [hN]; omega⟩
    rw [okQ, one.1, if_neg (by decide), if_neg (by decide), if_pos rfl, Bool.true_and, decide_eq_true_eq]
    simp only [List.length_cons, List.length_nil]
    omega
theorem fold_le {f : List Rw → Int} (hf : ∀ l, 0 ≤ f l) : ∀ (l : List Rw) (n : Int), l.foldl (szStep f) n ≤ 14 → n ≤ 14 ∧ ∀ r ∈ l, f (kids r) ≤ 14 ∨ n < 0
  | [], n, h => ⟨h, fun r hr => by cases hr⟩
  | r :: l, n, h => by
    rw [List.foldl_cons] at h
    obtain ⟨h1, h2⟩ := fold_le hf l _ h
    have := hf (kids r)
    unfold szStep at h1 h2
    split at h1
    · rename_i hn
      rw [if_pos hn] at h2
      refine ⟨by omega, fun q hq => ?_⟩
      rcases List.mem_cons.1 hq with rfl | hq
      · omega
      · have := h2 q hq; omega
    · omega
theorem makeNs_mem : ∀ {l : List Rw} {x : Nd}, x ∈ makeNs l → ∃ r ∈ l, x = makeN r
  | [], x, h => by rw [makeNs] at h; cases h
  | r :: l, x, h => by
    rw [makeNs] at h
    rcases List.mem_cons.1 h with rfl | h
    · exact ⟨r, List.mem_cons_self, rfl⟩
    · obtain ⟨q, hq, e⟩ := makeNs_mem h
      exact ⟨q, List.mem_cons_of_mem _ hq, e⟩
theorem made_ok : ∀ (d : Nat) (l : List Rw), szD d l ≤ 14 → ∀ r ∈ l, okT (d + 1) (makeN r)
  | 0, l, h, _, _ => by rw [szD] at h; omega
  | d + 1, l, h, r, hr => by
    rw [szD] at h
    obtain ⟨_, h2⟩ := fold_le (fun l => (sz_in d l).1) l 0 h
    have h3 : szD d (kids r) ≤ 14 := by have := h2 r hr; omega
    obtain ⟨k, n, ch⟩ := r
    have ih := made_ok d ch h3
    rw [makeN]
    exact buildN_ok k n _ (d + 1) (by omega) (fun x hx => by obtain ⟨q, hq, rfl⟩ := makeNs_mem hx; exact ih q hq)
theorem oneN_ok {l : List Rw} (h : fewR l = true) : okT 8 (oneN l) := by
  unfold fewR at h
  rw [decide_eq_true_eq] at h
  unfold oneN
  cases l with
  | nil => exact (okT_leaf ⟨by omega, by omega⟩).mono (by omega)
  | cons r l => exact made_ok 7 _ h r List.mem_cons_self
end Go.Proofs.YthhfjjnhkifbfaaDoor.A
/- What all laws' rows share: arguments that read are data. -/
namespace Go.Proofs.YthhfjjnhkifbfaaDoor.A
open Go
theorem shaped_int {P : Program} {d : Nat} {t : TypeId} {xs : List AV} (hu : P.underlying t = some (.int .i64)) (h : Shaped P d t xs) : ∃ n, xs = [.int .i64 n] := by
  cases d with
  | zero => exact h.elim
  | succ d =>
    unfold Shaped at h
    rw [hu] at h
    obtain ⟨n, e, _⟩ := h
    exact ⟨n, e⟩
theorem ints_of {P : Program} {d : Nat} {t : TypeId} (hu : P.underlying t = some (.int .i64)) : ∀ parts : List (List AV), (∀ p ∈ parts, Shaped P d t p) → ∃ ns : List Int, parts.length = ns.length ∧ parts.flatten = cI ns
  | [], _ => ⟨[], rfl, rfl⟩
  | p :: parts, h => by
    obtain ⟨n, rfl⟩ := shaped_int hu (h p (List.mem_cons_self ..))
    obtain ⟨ns, h1, h2⟩ := ints_of hu parts (fun q hq => h q (List.mem_cons_of_mem _ hq))
    exact ⟨n :: ns, by simp [h1], by simp [cI, h2]⟩
theorem arg_ints {P : Program} {t e : TypeId} {x : AV} (hu : P.underlying t = some (.slice e)) (he : P.underlying e = some (.int .i64)) (h : ArgOf P t x) : ∃ ns : List Int, x = slI ns ∧ ns.length ≤ maxLen := by
  unfold ArgOf at h
  rw [hu] at h
  obtain ⟨d, h⟩ := h
  cases d with
  | zero => exact h.elim
  | succ d =>
    unfold Shaped at h
    rw [hu] at h
    obtain ⟨parts, e1, hle, h2⟩ := h
    injection e1 with e1 _
    obtain ⟨ns, h3, h4⟩ := ints_of he parts h2
    exact ⟨ns, by rw [e1, h3, h4], by omega⟩
theorem arg_bool {P : Program} {t : TypeId} {x : AV} (hu : P.underlying t = some .bool) (h : ArgOf P t x) : ∃ b, x = .bool b := by
  unfold ArgOf at h
  rw [hu] at h
  obtain ⟨d, h⟩ := h
  cases d with
  | zero => exact h.elim
  | succ d =>
    unfold Shaped at h
    rw [hu] at h
    obtain ⟨n, e⟩ := h
    injection e with e _
    exact ⟨n, e⟩
end Go.Proofs.YthhfjjnhkifbfaaDoor.A
namespace Go.Proofs.YthhfjjnhkifbfaaDoor
open Go Go.Proofs.YthhfjjnhkifbfaaDoor.A
theorem Tryd.own : ownKnob Tryd.prog.godebug = none := by kernel_rfl
theorem Tryd.laidOut : laidOutB Tryd.prog = true := by kernel_rfl
end Go.Proofs.YthhfjjnhkifbfaaDoor
/- Arguments that read are data: parts, fields; machines of one way. -/
namespace Go.Proofs.YthhfjjnhkifbfaaDoor.A
open Go
set_option maxRecDepth 20000
theorem shaped_fields {P : Program} {d : Nat} {t : TypeId} {fs : Array Field} (hu : P.underlying t = some (.struct fs)) {xs : List AV} (h : Shaped P d t xs) : ∃ (d' : Nat) (parts : List (List AV)), xs = parts.flatten ∧ parts.length = fs.toList.length ∧ ∀ (i : Nat) (f : Field) (p : List AV), fs.toList[i]? = some f → parts[i]? = some p → Shaped P d' f.type p := by
  cases d with
  | zero => exact h.elim
  | succ d =>
    unfold Shaped at h
    rw [hu] at h
    obtain ⟨parts, h1, h2, h3⟩ := h
    exact ⟨d, parts, h1, by simpa using h2, fun i f p hf hp => h3 i f p (by simpa using hf) hp⟩
theorem shaped_slice {P : Program} {d : Nat} {t e : TypeId} (hu : P.underlying t = some (.slice e)) {xs : List AV} (h : Shaped P d t xs) : ∃ (d' : Nat) (parts : List (List AV)), xs = [.sl parts.length parts.flatten] ∧ parts.length ≤ maxLen ∧ ∀ p ∈ parts, Shaped P d' e p := by
  cases d with
  | zero => exact h.elim
  | succ d =>
    unfold Shaped at h
    rw [hu] at h
    obtain ⟨parts, h1, h2, h3⟩ := h
    exact ⟨d, parts, h1, h2, h3⟩
noncomputable def fieldsOf (t : TypeId) : Array Field := match Tryd.prog.underlying t with | some (.struct fs) => fs | _ => #[]
theorem shaped_bool {P : Program} {d : Nat} {t : TypeId} {xs : List AV} (hu : P.underlying t = some .bool) (h : Shaped P d t xs) : ∃ b, xs = [.bool b] := by
  cases d with
  | zero => exact h.elim
  | succ d =>
    unfold Shaped at h
    rw [hu] at h
    exact h
theorem shaped_arr {P : Program} {d : Nat} {t i : TypeId} {n : Nat} (hu : P.underlying t = some (.array n i)) (hi : P.underlying i = some (.int .i64)) {xs : List AV} (h : Shaped P d t xs) : ∃ l : List Int, l.length = n ∧ xs = cI l := by
  cases d with
  | zero => exact h.elim
  | succ d =>
    unfold Shaped at h
    rw [hu] at h
    obtain ⟨parts, rfl, hl, hp⟩ := h
    obtain ⟨ns, h3, h4⟩ := ints_of hi parts hp
    exact ⟨ns, by rw [← h3]; simpa using hl, h4⟩
theorem parts_I {n : Nat} : ∀ {parts : List (List AV)}, (∀ p ∈ parts, ∃ l : List Int, l.length = n ∧ p = cI l) → ∃ N : List Int, N.length = n * parts.length ∧ parts.flatten = cI N
  | [], _ => ⟨[], rfl, rfl⟩
  | p :: parts, h => by
    obtain ⟨l, h0, rfl⟩ := h p (List.mem_cons_self ..)
    obtain ⟨N, h1, h2⟩ := parts_I (fun q hq => h q (List.mem_cons_of_mem _ hq))
    exact ⟨l ++ N, by rw [List.length_append, h0, h1, List.length_cons, Nat.mul_succ, Nat.add_comm], by rw [cI_app, List.flatten_cons, h2]⟩
theorem parts_B : ∀ {parts : List (List AV)}, (∀ p ∈ parts, ∃ b, p = [AV.bool b]) → ∃ A : List Bool, A.length = parts.length ∧ parts.flatten = cB A
  | [], _ => ⟨[], rfl, rfl⟩
  | p :: parts, h => by
    obtain ⟨b, rfl⟩ := h p (List.mem_cons_self ..)
    obtain ⟨A, h1, h2⟩ := parts_B (fun q hq => h q (List.mem_cons_of_mem _ hq))
    exact ⟨b :: A, by simp [h1], by simp [cB, h2]⟩
theorem arg_dfa {x : AV} (h : ArgOf Tryd.prog 25 x) : ∃ (n : Nat) (N : List Int) (A : List Bool), N.length = 5 * n ∧ x = .agg [.sl n (cI N), slB A] := by
  have hu : Tryd.prog.underlying 25 = some (.struct (fieldsOf 25)) := by kernel_rfl
  have hi : Tryd.prog.underlying 3 = some (.int .i64) := by kernel_rfl
  have hb : Tryd.prog.underlying 4 = some .bool := by kernel_rfl
  have hf : (fieldsOf 25).toList.map (·.type) = [22, 23] := by kernel_rfl
  have hs5 : Tryd.prog.underlying 22 = some (.slice 31) := by kernel_rfl
  have har : Tryd.prog.underlying 31 = some (.array 5 3) := by kernel_rfl
  have hsb : Tryd.prog.underlying 23 = some (.slice 4) := by kernel_rfl
  unfold ArgOf at h
  rw [hu] at h
  obtain ⟨d, xs, rfl, h⟩ := h
  obtain ⟨d', parts, rfl, hl, hp⟩ := shaped_fields hu h
  generalize fieldsOf 25 = fl at *
  have hl5 : fl.toList.length = 2 := by have := congrArg List.length hf; simpa using this
  match hfl : fl.toList, hl5 with
  | [f1, f2], _ =>
    rw [hfl] at hl hp hf
    simp only [List.map_cons, List.map_nil, List.cons.injEq, and_true] at hf
    obtain ⟨e1, e2⟩ := hf
    match parts, hl with
    | [p1, p2], _ =>
      obtain ⟨d4, q4, rfl, _, h4⟩ := shaped_slice hs5 (e1 ▸ hp 0 f1 p1 rfl rfl)
      obtain ⟨d5, q5, rfl, _, h5⟩ := shaped_slice hsb (e2 ▸ hp 1 f2 p2 rfl rfl)
      obtain ⟨N, s1, s2⟩ := parts_I (fun p hp => shaped_arr har hi (h4 p hp))
      obtain ⟨A, t1, t2⟩ := parts_B (fun p hp => shaped_bool hb (h5 p hp))
      exact ⟨q4.length, N, A, s1, by rw [slB, t1, ← s2, ← t2]; rfl⟩
end Go.Proofs.YthhfjjnhkifbfaaDoor.A
/- Arguments that read are data: machines, raw expressions. -/
namespace Go.Proofs.YthhfjjnhkifbfaaDoor.A
open Go
set_option maxRecDepth 20000
/-! ### a machine that came in -/
theorem shaped_three {P : Program} {d : Nat} {t i : TypeId} {fs : Array Field} (hu : P.underlying t = some (.struct fs)) (hf : fs.toList.map (·.type) = [i, i, i]) (hi : P.underlying i = some (.int .i64)) {xs : List AV} (h : Shaped P d t xs) : ∃ a b c, xs = [.int .i64 a, .int .i64 b, .int .i64 c] := by
  obtain ⟨d', parts, rfl, hl, hp⟩ := shaped_fields hu h
  have hl3 : fs.toList.length = 3 := by have := congrArg List.length hf; simpa using this
  match hfs : fs.toList, hl3 with
  | [f1, f2, f3], _ =>
    rw [hfs] at hl hp hf
    simp only [List.map_cons, List.map_nil, List.cons.injEq, and_true] at hf
    obtain ⟨e1, e2, e3⟩ := hf
    match parts, hl with
    | [p1, p2, p3], _ =>
      obtain ⟨a, rfl⟩ := shaped_int hi (e1 ▸ hp 0 f1 p1 rfl rfl)
      obtain ⟨b, rfl⟩ := shaped_int hi (e2 ▸ hp 1 f2 p2 rfl rfl)
      obtain ⟨c, rfl⟩ := shaped_int hi (e3 ▸ hp 2 f3 p3 rfl rfl)
      exact ⟨a, b, c, rfl⟩
theorem shaped_two {P : Program} {d : Nat} {t i : TypeId} (hu : P.underlying t = some (.array 2 i)) (hi : P.underlying i = some (.int .i64)) {xs : List AV} (h : Shaped P d t xs) : ∃ a b, xs = [.int .i64 a, .int .i64 b] := by
  cases d with
  | zero => exact h.elim
  | succ d =>
    unfold Shaped at h
    rw [hu] at h
    obtain ⟨parts, rfl, hl, hp⟩ := h
    match parts, hl with
    | [p1, p2], _ =>
      obtain ⟨a, rfl⟩ := shaped_int hi (hp p1 (by simp))
      obtain ⟨b, rfl⟩ := shaped_int hi (hp p2 (by simp))
      exact ⟨a, b, rfl⟩
theorem parts_S : ∀ {parts : List (List AV)}, (∀ p ∈ parts, ∃ a b c, p = [.int .i64 a, .int .i64 b, .int .i64 c]) → ∃ ss : List (Int × Int × Int), ss.length = parts.length ∧ parts.flatten = cS ss
  | [], _ => ⟨[], rfl, rfl⟩
  | p :: parts, h => by
    obtain ⟨a, b, c, rfl⟩ := h p (List.mem_cons_self ..)
    obtain ⟨ss, h1, h2⟩ := parts_S (fun q hq => h q (List.mem_cons_of_mem _ hq))
    exact ⟨(a, b, c) :: ss, by simp [h1], by simp [cS, h2]⟩
theorem parts_P : ∀ {parts : List (List AV)}, (∀ p ∈ parts, ∃ a b, p = [.int .i64 a, .int .i64 b]) → ∃ ss : List (Int × Int), ss.length = parts.length ∧ parts.flatten = cP ss
  | [], _ => ⟨[], rfl, rfl⟩
  | p :: parts, h => by
    obtain ⟨a, b, rfl⟩ := h p (List.mem_cons_self ..)
    obtain ⟨ss, h1, h2⟩ := parts_P (fun q hq => h q (List.mem_cons_of_mem _ hq))
    exact ⟨(a, b) :: ss, by simp [h1], by simp [cP, h2]⟩
theorem arg_nfa {x : AV} (h : ArgOf Tryd.prog 41 x) : ∃ (N S F : Int) (ss : List (Int × Int × Int)) (fs : List (Int × Int)), x = nfaV N S F ss fs := by
  have hu : Tryd.prog.underlying 41 = some (.struct (fieldsOf 41)) := by kernel_rfl
  have hi : Tryd.prog.underlying 3 = some (.int .i64) := by kernel_rfl
  have hus : Tryd.prog.underlying 69 = some (.struct (fieldsOf 69)) := by kernel_rfl
  have hf : (fieldsOf 41).toList.map (·.type) = [3, 3, 3, 38, 39] := by kernel_rfl
  have hfs : (fieldsOf 69).toList.map (·.type) = [3, 3, 3] := by kernel_rfl
  have hsl : Tryd.prog.underlying 38 = some (.slice 69) := by kernel_rfl
  have hsp : Tryd.prog.underlying 39 = some (.slice 67) := by kernel_rfl
  have har : Tryd.prog.underlying 67 = some (.array 2 3) := by kernel_rfl
  unfold ArgOf at h
  rw [hu] at h
  obtain ⟨d, xs, rfl, h⟩ := h
  obtain ⟨d', parts, rfl, hl, hp⟩ := shaped_fields hu h
  generalize fieldsOf 41 = fl at *
  have hl5 : fl.toList.length = 5 := by have := congrArg List.length hf; simpa using this
  match hfl : fl.toList, hl5 with
  | [f1, f2, f3, f4, f5], _ =>
    rw [hfl] at hl hp hf
    simp only [List.map_cons, List.map_nil, List.cons.injEq, and_true] at hf
    obtain ⟨e1, e2, e3, e4, e5⟩ := hf
    match parts, hl with
    | [p1, p2, p3, p4, p5], _ =>
      obtain ⟨a, rfl⟩ := shaped_int hi (e1 ▸ hp 0 f1 p1 rfl rfl)
      obtain ⟨b, rfl⟩ := shaped_int hi (e2 ▸ hp 1 f2 p2 rfl rfl)
      obtain ⟨c, rfl⟩ := shaped_int hi (e3 ▸ hp 2 f3 p3 rfl rfl)
      obtain ⟨d4, q4, rfl, _, h4⟩ := shaped_slice hsl (e4 ▸ hp 3 f4 p4 rfl rfl)
      obtain ⟨d5, q5, rfl, _, h5⟩ := shaped_slice hsp (e5 ▸ hp 4 f5 p5 rfl rfl)
      obtain ⟨ss, s1, s2⟩ := parts_S (fun p hp => shaped_three hus hfs hi (h4 p hp))
      obtain ⟨fs, t1, t2⟩ := parts_P (fun p hp => shaped_two har hi (h5 p hp))
      exact ⟨a, b, c, ss, fs, by rw [nfaV, s1, s2.symm, t1, t2.symm]; rfl⟩
/-! ### raw expressions that came in -/
theorem shaped_slice' {P : Program} {d : Nat} {t e : TypeId} (hu : P.underlying t = some (.slice e)) {xs : List AV} (h : Shaped P d t xs) : ∃ (d' : Nat) (parts : List (List AV)), d' < d ∧ xs = [.sl parts.length parts.flatten] ∧ parts.length ≤ maxLen ∧ ∀ p ∈ parts, Shaped P d' e p := by
  cases d with
  | zero => exact h.elim
  | succ d =>
    unfold Shaped at h
    rw [hu] at h
    obtain ⟨parts, h1, h2, h3⟩ := h
    exact ⟨d, parts, Nat.lt_succ_self d, h1, h2, h3⟩
theorem shaped_fields' {P : Program} {d : Nat} {t : TypeId} {fs : Array Field} (hu : P.underlying t = some (.struct fs)) {xs : List AV} (h : Shaped P d t xs) : ∃ (d' : Nat) (parts : List (List AV)), d' < d ∧ xs = parts.flatten ∧ parts.length = fs.toList.length ∧ ∀ (i : Nat) (f : Field) (p : List AV), fs.toList[i]? = some f → parts[i]? = some p → Shaped P d' f.type p := by
  cases d with
  | zero => exact h.elim
  | succ d =>
    unfold Shaped at h
    rw [hu] at h
    obtain ⟨parts, h1, h2, h3⟩ := h
    exact ⟨d, parts, Nat.lt_succ_self d, h1, by simpa using h2, fun i f p hf hp => h3 i f p (by simpa using hf) hp⟩
theorem parts_R : ∀ {parts : List (List AV)}, (∀ p ∈ parts, ∃ r, p = cRw r) → ∃ l : List Rw, l.length = parts.length ∧ parts.flatten = cRws l
  | [], _ => ⟨[], rfl, by rw [cRws_nil]; rfl⟩
  | p :: parts, h => by
    obtain ⟨r, rfl⟩ := h p (List.mem_cons_self ..)
    obtain ⟨l, h1, h2⟩ := parts_R (fun q hq => h q (List.mem_cons_of_mem _ hq))
    exact ⟨r :: l, by simp [h1], by rw [cRws_cons, List.flatten_cons, h2]⟩
theorem shaped_raw : ∀ (d : Nat) (xs : List AV), Shaped Tryd.prog d 85 xs → ∃ r, xs = cRw r := by
  have hu : Tryd.prog.underlying 85 = some (.struct (fieldsOf 85)) := by kernel_rfl
  have hi : Tryd.prog.underlying 3 = some (.int .i64) := by kernel_rfl
  have hf : (fieldsOf 85).toList.map (·.type) = [3, 3, 50] := by kernel_rfl
  have hsl : Tryd.prog.underlying 50 = some (.slice 85) := by kernel_rfl
  intro d
  induction d using Nat.strongRecOn with
  | ind d ih =>
    intro xs h
    obtain ⟨d', parts, hd, rfl, hl, hp⟩ := shaped_fields' hu h
    generalize fieldsOf 85 = fl at *
    have hl3 : fl.toList.length = 3 := by have := congrArg List.length hf; simpa using this
    match hfl : fl.toList, hl3 with
    | [f1, f2, f3], _ =>
      rw [hfl] at hl hp hf
      simp only [List.map_cons, List.map_nil, List.cons.injEq, and_true] at hf
      obtain ⟨e1, e2, e3⟩ := hf
      match parts, hl with
      | [p1, p2, p3], _ =>
        obtain ⟨a, rfl⟩ := shaped_int hi (e1 ▸ hp 0 f1 p1 rfl rfl)
        obtain ⟨b, rfl⟩ := shaped_int hi (e2 ▸ hp 1 f2 p2 rfl rfl)
        obtain ⟨d4, q4, hd4, rfl, _, h4⟩ := shaped_slice' hsl (e3 ▸ hp 2 f3 p3 rfl rfl)
        obtain ⟨l, s1, s2⟩ := parts_R (fun p hp => ih d4 (by omega) p (h4 p hp))
        exact ⟨.mk a b l, by rw [cRw_mk, slR, s1, s2.symm]; rfl⟩
theorem arg_raws {x : AV} (h : ArgOf Tryd.prog 50 x) : ∃ l, x = slR l := by
  have hsl : Tryd.prog.underlying 50 = some (.slice 85) := by kernel_rfl
  unfold ArgOf at h
  rw [hsl] at h
  obtain ⟨d, h⟩ := h
  obtain ⟨d4, q4, _, e, _, h4⟩ := shaped_slice' hsl h
  obtain ⟨l, s1, s2⟩ := parts_R (fun p hp => shaped_raw d4 p (h4 p hp))
  injection e with e _
  exact ⟨l, by rw [e, slR, s1, s2]⟩
end Go.Proofs.YthhfjjnhkifbfaaDoor.A
/- Right expressions: the plain law. -/
namespace Go.Proofs.YthhfjjnhkifbfaaDoor.A
open Go
set_option maxRecDepth 20000
def countN (k : Int) (n : Nat) : Bool := if k = 1 ∨ k = 2 ∨ k = 3 then n == 0 else if k = 4 ∨ k = 5 then decide (2 ≤ n) else if k = 6 ∨ k = 7 ∨ k = 8 ∨ k = 9 then n == 1 else false
def headN (k s lo hi : Int) (n : Nat) : Bool := countN k n && decide (k = 1 ∨ s = 0) && decide (k = 9 ∨ (lo = 0 ∧ hi = 0)) && decide (k = 1 → 1 ≤ s ∧ s ≤ 31) && decide (0 ≤ lo ∧ lo ≤ hi ∧ hi ≤ 9)
mutual
def rightN : Nd → Bool
  | .mk k s lo hi l => headN k s lo hi l.length && rightNs l
def rightNs : List Nd → Bool
  | [] => true
  | x :: l => rightN x && rightNs l
end
/-- What a node's own numbers may be: three ways that are right, ten that are not. -/
theorem headN_cases (k s lo hi : Int) : ((k = 1 ∧ lo = 0 ∧ hi = 0 ∧ 1 ≤ s ∧ s ≤ 31) ∨ (k = 9 ∧ s = 0 ∧ 0 ≤ lo ∧ lo ≤ hi ∧ hi ≤ 9) ∨ (k ≠ 1 ∧ k ≠ 9 ∧ s = 0 ∧ lo = 0 ∧ hi = 0)) ∨
    (k ≠ 1 ∧ s ≠ 0) ∨ (k = 1 ∧ lo ≠ 0) ∨ (k = 1 ∧ lo = 0 ∧ hi ≠ 0) ∨ (k ≠ 1 ∧ k ≠ 9 ∧ s = 0 ∧ lo ≠ 0) ∨ (k ≠ 1 ∧ k ≠ 9 ∧ s = 0 ∧ lo = 0 ∧ hi ≠ 0) ∨ (k = 1 ∧ lo = 0 ∧ hi = 0 ∧ s < 1) ∨ (k = 1 ∧ lo = 0 ∧ hi = 0 ∧ 1 ≤ s ∧ 31 < s) ∨
    (k = 9 ∧ s = 0 ∧ lo < 0) ∨ (k = 9 ∧ s = 0 ∧ 0 ≤ lo ∧ hi < lo) ∨ (k = 9 ∧ s = 0 ∧ 0 ≤ lo ∧ lo ≤ hi ∧ 9 < hi) := by
  by_cases c1 : k = 1
  · by_cases c2 : lo = 0
    · by_cases c3 : hi = 0
      · by_cases c4 : s < 1
        · exact .inr (.inr (.inr (.inr (.inr (.inr (.inl ⟨c1, c2, c3, c4⟩))))))
        · by_cases c5 : 31 < s
          · exact .inr (.inr (.inr (.inr (.inr (.inr (.inr (.inl ⟨c1, c2, c3, by omega, c5⟩)))))))
          · exact .inl (.inl ⟨c1, c2, c3, by omega, by omega⟩)
      · exact .inr (.inr (.inr (.inl ⟨c1, c2, c3⟩)))
    · exact .inr (.inr (.inl ⟨c1, c2⟩))
  · by_cases c2 : s = 0
    · by_cases c3 : k = 9
      · by_cases c4 : lo < 0
        · exact .inr (.inr (.inr (.inr (.inr (.inr (.inr (.inr (.inl ⟨c3, c2, c4⟩))))))))
        · by_cases c5 : hi < lo
          · exact .inr (.inr (.inr (.inr (.inr (.inr (.inr (.inr (.inr (.inl ⟨c3, c2, by omega, c5⟩)))))))))
          · by_cases c6 : 9 < hi
            · exact .inr (.inr (.inr (.inr (.inr (.inr (.inr (.inr (.inr (.inr ⟨c3, c2, by omega, by omega, c6⟩)))))))))
            · exact .inl (.inr (.inl ⟨c3, c2, by omega, by omega, by omega⟩))
      · by_cases c4 : lo = 0
        · by_cases c5 : hi = 0
          · exact .inl (.inr (.inr ⟨c1, c3, c2, c4, c5⟩))
          · exact .inr (.inr (.inr (.inr (.inr (.inl ⟨c1, c3, c2, c4, c5⟩)))))
        · exact .inr (.inr (.inr (.inr (.inl ⟨c1, c3, c2, c4⟩))))
    · exact .inr (.inl ⟨c1, c2⟩)
theorem rightNs_all {l : List Nd} : rightNs l = l.all rightN := by
  induction l with
  | nil => rw [rightNs]; rfl
  | cons x l ih => rw [rightNs, ih, List.all_cons]
mutual
/-- No list of parts is too long. -/
def wideN : Nd → Bool
  | .mk _ _ _ _ l => decide (l.length ≤ 1000) && wideNs l
def wideNs : List Nd → Bool
  | [] => true
  | x :: l => wideN x && wideNs l
end
theorem wideNs_all {l : List Nd} : wideNs l = l.all wideN := by
  induction l with
  | nil => rw [wideNs]; rfl
  | cons x l ih => rw [wideNs, ih, List.all_cons]
theorem wide_at {l : List Nd} (h : wideNs l = true) {i : Nat} (hi : i < l.length) : wideN (l.getD i default) = true := by
  rw [wideNs_all, List.all_eq_true] at h
  rw [List.getD_eq_getElem?_getD, List.getElem?_eq_getElem hi]
  exact h _ (List.getElem_mem hi)
theorem size_at_lt {l : List Nd} {j : Nat} (hj : j < l.length) (k s lo hi : Int) : SizeOf.sizeOf (l.getD j default) < SizeOf.sizeOf (Nd.mk k s lo hi l) := by
  rw [List.getD_eq_getElem?_getD, List.getElem?_eq_getElem hj, Option.getD_some]
  have := List.sizeOf_lt_of_mem (List.getElem_mem hj)
  simp only [Nd.mk.sizeOf_spec]
  omega
/-! ### a right node's numbers -/
theorem right_cases {k s lo hi : Int} {l : List Nd} (h : rightN (.mk k s lo hi l) = true) : (∀ x ∈ l, rightN x = true) ∧
    ((k = 1 ∧ l = [] ∧ lo = 0 ∧ hi = 0 ∧ 1 ≤ s ∧ s ≤ 31) ∨ ((k = 2 ∨ k = 3) ∧ l = [] ∧ s = 0 ∧ lo = 0 ∧ hi = 0) ∨ ((k = 4 ∨ k = 5) ∧ s = 0 ∧ lo = 0 ∧ hi = 0 ∧ ∃ x y r, l = x :: y :: r) ∨
     ((k = 6 ∨ k = 7 ∨ k = 8) ∧ s = 0 ∧ lo = 0 ∧ hi = 0 ∧ ∃ x, l = [x]) ∨ (k = 9 ∧ s = 0 ∧ 0 ≤ lo ∧ lo ≤ hi ∧ hi ≤ 9 ∧ ∃ x, l = [x])) := by
  rw [rightN, Bool.and_eq_true, rightNs_all] at h
  obtain ⟨h, hl⟩ := h
  refine ⟨fun x hx => List.all_eq_true.1 hl x hx, ?_⟩
  simp only [headN, Bool.and_eq_true, decide_eq_true_eq] at h
  obtain ⟨⟨⟨⟨hc, h1⟩, h2⟩, h3⟩, h4⟩ := h
  unfold countN at hc
  split at hc
  · rename_i hk
    have hl0 : l = [] := by simpa using hc
    rcases hk with rfl | rfl | rfl
    · have := h3 rfl
      have := h2.resolve_left (by decide)
      exact .inl ⟨rfl, hl0, by omega, by omega, by omega, by omega⟩
    · have := h2.resolve_left (by decide)
      have := h1.resolve_left (by decide)
      exact .inr (.inl ⟨.inl rfl, hl0, by omega, by omega, by omega⟩)
    · have := h2.resolve_left (by decide)
      have := h1.resolve_left (by decide)
      exact .inr (.inl ⟨.inr rfl, hl0, by omega, by omega, by omega⟩)
  · split at hc
    · rename_i hk
      have hl2 : ∃ x y r, l = x :: y :: r := by
        match l, hc with
        | x :: y :: r, _ => exact ⟨x, y, r, rfl⟩
      have := h2.resolve_left (by omega)
      have := h1.resolve_left (by omega)
      exact .inr (.inr (.inl ⟨hk, by omega, by omega, by omega, hl2⟩))
    · split at hc
      · rename_i hk
        have hl1 : ∃ x, l = [x] := by
          match l, hc with
          | [x], _ => exact ⟨x, rfl⟩
        have := h1.resolve_left (by omega)
        by_cases h9 : k = 9
        · exact .inr (.inr (.inr (.inr ⟨h9, by omega, by omega, by omega, by omega, hl1⟩)))
        · have := h2.resolve_left h9
          exact .inr (.inr (.inr (.inl ⟨by omega, by omega, by omega, by omega, hl1⟩)))
      · cases hc
end Go.Proofs.YthhfjjnhkifbfaaDoor.A
/- Raw expressions' trees are right, slim, not high. -/
namespace Go.Proofs.YthhfjjnhkifbfaaDoor.A
open Go
set_option maxRecDepth 20000
mutual
def slimN : Nd → Bool
  | .mk _ _ _ _ l => decide (l.length ≤ 4) && slimNs l
def slimNs : List Nd → Bool
  | [] => true
  | x :: l => slimN x && slimNs l
end
mutual
def dN : Nd → Nat
  | .mk _ _ _ _ l => dNs l + 1
def dNs : List Nd → Nat
  | [] => 0
  | x :: l => max (dN x) (dNs l)
end
theorem slimNs_all {l : List Nd} : slimNs l = l.all slimN := by
  induction l with
  | nil => rw [slimNs]; rfl
  | cons x l ih => rw [slimNs, ih, List.all_cons]
mutual
theorem slim_wide : ∀ n : Nd, slimN n = true → wideN n = true
  | .mk k s lo hi l, h => by
    rw [slimN, Bool.and_eq_true, decide_eq_true_eq] at h
    rw [wideN, Bool.and_eq_true, decide_eq_true_eq]
    exact ⟨by omega, slims_wide l h.2⟩
theorem slims_wide : ∀ l : List Nd, slimNs l = true → wideNs l = true
  | [], _ => by rw [wideNs]
  | x :: l, h => by
    rw [slimNs, Bool.and_eq_true] at h
    rw [wideNs, slim_wide x h.1, slims_wide l h.2]; rfl
end
def okR (h : Nat) (x : Nd) : Prop := rightN x = true ∧ slimN x = true ∧ dN x ≤ h
theorem okR.mono {h h' x} (hx : okR h x) (hh : h ≤ h') : okR h' x := ⟨hx.1, hx.2.1, Nat.le_trans hx.2.2 hh⟩
theorem okR_list : ∀ (l : List Nd) (h : Nat), (∀ x ∈ l, okR h x) → rightNs l = true ∧ slimNs l = true ∧ dNs l ≤ h
  | [], h, _ => ⟨by rw [rightNs], by rw [slimNs], by rw [dNs]; omega⟩
  | x :: l, h, hl => by
    obtain ⟨h1, h2, h3⟩ := hl x List.mem_cons_self
    obtain ⟨g1, g2, g3⟩ := okR_list l h (fun y hy => hl y (List.mem_cons_of_mem _ hy))
    rw [rightNs, slimNs, dNs, h1, h2, g1, g2]
    exact ⟨rfl, rfl, by omega⟩
theorem okR_mk {k s lo hi : Int} {l : List Nd} {h : Nat} (hh : headN k s lo hi l.length = true) (hn : l.length ≤ 4) (hl : ∀ x ∈ l, okR h x) : okR (h + 1) (.mk k s lo hi l) := by
  obtain ⟨g1, g2, g3⟩ := okR_list l h hl
  refine ⟨by rw [rightN, hh, g1]; rfl, by rw [slimN, g2, decide_eq_true hn]; rfl, by rw [dN]; omega⟩
theorem sign_inR (x : Int) : 1 ≤ sign x ∧ sign x ≤ 31 := by
  have h1 := Int.emod_nonneg x (show (5 : Int) ≠ 0 by decide)
  have h2 := Int.emod_lt_of_pos x (show (0 : Int) < 5 by decide)
  unfold sign
  obtain ⟨m, hm⟩ : ∃ m, m = x % 5 := ⟨_, rfl⟩
  rw [← hm] at h1 h2 ⊢
  have : m = 0 ∨ m = 1 ∨ m = 2 ∨ m = 3 ∨ m = 4 := by omega
  rcases this with rfl | rfl | rfl | rfl | rfl <;> decide
theorem head_set {s : Int} (h : 1 ≤ s ∧ s ≤ 31) : headN 1 s 0 0 ([] : List Nd).length = true := by
  simp [headN, countN, h.1, h.2]
theorem okR_leaf {s : Int} (h : 1 ≤ s ∧ s ≤ 31) : okR 1 (.mk 1 s 0 0 []) := okR_mk (h := 0) (head_set h) (by simp) (fun x hx => by cases hx)
theorem partN_okR (n : Int) (ls : List Nd) (h : Nat) (h1 : 1 ≤ h) (hl : ∀ x ∈ ls, okR h x) (i : Nat) : okR h (partN n ls i) := by
  unfold partN
  split
  · rename_i hi
    rw [List.getD_eq_getElem?_getD, List.getElem?_eq_getElem hi]
    exact hl _ (List.getElem_mem hi)
  · exact (okR_leaf (sign_inR _)).mono h1
theorem many_okR (n : Int) (ls : List Nd) (h : Nat) (h1 : 1 ≤ h) (hl : ∀ x ∈ ls, okR h x) (k : Nat) : ∀ x ∈ (List.range k).map (partN n ls), okR h x := by
  intro x hx
  obtain ⟨i, _, rfl⟩ := List.mem_map.1 hx
  exact partN_okR n ls h h1 hl i
theorem buildN_okR (k n : Int) (ls : List Nd) (h : Nat) (h1 : 1 ≤ h) (hl : ∀ x ∈ ls, okR h x) : okR (h + 1) (buildN k n ls) := by
  have hm := many4_in ls.length
  have hp0 := partN_okR n ls h h1 hl 0
  have n4 : 0 ≤ n % 4 ∧ n % 4 < 4 := ⟨Int.emod_nonneg _ (by decide), Int.emod_lt_of_pos _ (by decide)⟩
  have n3 : 0 ≤ IntKind.i64.wrap (n.tdiv 4) % 3 ∧ IntKind.i64.wrap (n.tdiv 4) % 3 < 3 := ⟨Int.emod_nonneg _ (by decide), Int.emod_lt_of_pos _ (by decide)⟩
  have n31 : 0 ≤ n % 31 ∧ n % 31 < 31 := ⟨Int.emod_nonneg _ (by decide), Int.emod_lt_of_pos _ (by decide)⟩
  have hlist := many_okR n ls h h1 hl (many4 ls.length)
  have hlen : ((List.range (many4 ls.length)).map (partN n ls)).length = many4 ls.length := by simp
  have one : ∀ x ∈ [partN n ls 0], okR h x := fun x hx => by rw [List.mem_singleton.1 hx]; exact hp0
  unfold buildN
  repeat' split
  · exact (okR_leaf ⟨by omega, by omega⟩).mono (by omega)
  · exact (okR_leaf (sign_inR _)).mono (by omega)
  · exact okR_mk (by simp [headN, countN]) (by simp) (fun x hx => by cases hx)
  · exact okR_mk (by simp [headN, countN]) (by simp) (fun x hx => by cases hx)
  · refine okR_mk ?_ (by omega) hlist
    rw [hlen]; simp [headN, countN]; omega
  · refine okR_mk ?_ (by omega) hlist
    rw [hlen]; simp [headN, countN]; omega
  · exact okR_mk (by simp [headN, countN]) (by simp) one
  · exact okR_mk (by simp [headN, countN]) (by simp) one
  · exact okR_mk (by simp [headN, countN]) (by simp) one
  · refine okR_mk ?_ (by simp) one
    simp [headN, countN]; omega
theorem fold_leR {f : List Rw → Int} (hf : ∀ l, 0 ≤ f l) : ∀ (l : List Rw) (n : Int), l.foldl (szStep f) n ≤ 14 → n ≤ 14 ∧ ∀ r ∈ l, f (kids r) ≤ 14 ∨ n < 0
  | [], n, h => ⟨h, fun r hr => by cases hr⟩
  | r :: l, n, h => by
    rw [List.foldl_cons] at h
    obtain ⟨h1, h2⟩ := fold_leR hf l _ h
    have := hf (kids r)
    unfold szStep at h1 h2
    split at h1
    · rename_i hn
      rw [if_pos hn] at h2
      refine ⟨by omega, fun q hq => ?_⟩
      rcases List.mem_cons.1 hq with rfl | hq
      · omega
      · have := h2 q hq; omega
    · omega
theorem makeNs_memR : ∀ {l : List Rw} {x : Nd}, x ∈ makeNs l → ∃ r ∈ l, x = makeN r
  | [], x, h => by rw [makeNs] at h; cases h
  | r :: l, x, h => by
    rw [makeNs] at h
    rcases List.mem_cons.1 h with rfl | h
    · exact ⟨r, List.mem_cons_self, rfl⟩
    · obtain ⟨q, hq, e⟩ := makeNs_memR h
      exact ⟨q, List.mem_cons_of_mem _ hq, e⟩
theorem made_okR : ∀ (d : Nat) (l : List Rw), szD d l ≤ 14 → ∀ r ∈ l, okR (d + 1) (makeN r)
  | 0, l, h, _, _ => by rw [szD] at h; omega
  | d + 1, l, h, r, hr => by
    rw [szD] at h
    obtain ⟨_, h2⟩ := fold_leR (fun l => (sz_in d l).1) l 0 h
    have h3 : szD d (kids r) ≤ 14 := by have := h2 r hr; omega
    obtain ⟨k, n, ch⟩ := r
    have ih := made_okR d ch h3
    rw [makeN]
    exact buildN_okR k n _ (d + 1) (by omega) (fun x hx => by obtain ⟨q, hq, rfl⟩ := makeNs_memR hx; exact ih q hq)
theorem oneN_okR {l : List Rw} (h : fewR l = true) : okR 8 (oneN l) := by
  unfold fewR at h
  rw [decide_eq_true_eq] at h
  unfold oneN
  cases l with
  | nil => exact (okR_leaf ⟨by omega, by omega⟩).mono (by omega)
  | cons r l => exact made_okR 7 _ h r List.mem_cons_self
end Go.Proofs.YthhfjjnhkifbfaaDoor.A
