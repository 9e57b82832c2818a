/- The builder: part, kind by kind. -/
import Derived.Test.YtfmijoglolecgaaRows
import Derived.Test.YtfmijoglolecgaaMLTakes1
import Derived.Test.YtfmijoglolecgaaMLTakes2
import Derived.Test.YtfmijoglolecgaaMLTakes3
import Derived.Test.YtfmijoglolecgaaMLTakes4
import Derived.Test.YtfmijoglolecgaaMLTakes5
import Derived.Test.YtfmijoglolecgaaMLTakes6
set_option linter.unusedVariables false
set_option linter.unusedSimpArgs false
set_option linter.unnecessarySimpa false
namespace Go.Proofs.Ytfmijoglolecgaa.A
open Go
set_option maxRecDepth 20000
noncomputable abbrev tabPart : List (FuncId × (List AV → AH → Option (AV × AH))) := [(27, cRel RState), (26, cRel RFree), (16, cRel RFull), (25, cRel RParts), (28, cRel ROnce), (29, cRel RRep)]
theorem crPart_ok : CRSound Try.prog (tabLookR tabPart) ∧ Up (tabLookR tabPart) :=
  tabR_cons (tabR_cons (tabR_cons (tabR_cons (tabR_cons (tabR_cons (tabR_nil _) fun args H v H' h => (cRel_some h).1) fun args H v H' h => (cRel_some h).1) fun args H v H' h => (cRel_some h).1) fun args H v H' h => (cRel_some h).1) fun args H v H' h => (cRel_some h).1) fun args H v H' h => (cRel_some h).1
theorem rep_call {kind set lo hi : Int} {x : Nd} {l : List Nd} {t : Nat} {o : Ob} {nx : Nat} {b : BS} {K : AV × AH → Prop} (hex : ∃ v H', RRep [bp t, nodeV (.mk kind set lo hi (x :: l))] ⟨o, nx⟩ v H') (h : BAt o nx t b) (hK : ∀ o' nx', nx ≤ nx' → BAt o' nx' t (bRepeat lo hi.toNat (bPart x) b).2 → BKeep t o nx o' → K (bE (bRepeat lo hi.toNat (bPart x) b).1, ⟨o', nx'⟩)) :
    wO (Option.map (fun p => freezeR false p.1 p.2) (cRel RRep [bp t, nodeV (.mk kind set lo hi (x :: l))] ⟨o, nx⟩)) K := by
  refine cRel_call hex fun v H' hr => ?_
  obtain ⟨rfl, h1, h2, h3⟩ := hr.2 t b kind set lo hi x l rfl h
  exact hK H'.o H'.nx h1 h2 h3
/-- The walk of a part gives its contract. -/
theorem part_of {x : Nd} {t : Nat} {o : Ob} {nx : Nat} {b : BS} (h : BAt o nx t b)
    (w : ∀ cr, cr 27 = cRel RState → cr 26 = cRel RFree → cr 16 = cRel RFull → cr 25 = cRel RParts → cr 28 = cRel ROnce → cr 29 = cRel RRep →
      WP (EX md0 (fun _ _ => none)) cr 30 nzPart (Try.f15.body.getD .skip) (begin_ [bp t, nodeV x]) o nx (fun u a o' nx' => (u = .normal ∨ u = .ret) ∧ wO (resultsL Try.prog a ⟨o', nx'⟩ Try.f15.results.toList) (fun vs => tup1 vs = bE (bPart x b).1 ∧ BTo t (bPart x b).2 ⟨o, nx⟩ ⟨o', nx'⟩))) :
    ∃ v H', RPartB [bp t, nodeV x] ⟨o, nx⟩ v H' := by
  obtain ⟨v, H', h1, h2⟩ := okR_of_WP (E := EX md0 (fun _ _ => none)) (cr := tabLookR tabPart) (cp_none _) crPart_ok mixed (k := 30) (nz := nzPart) (args := [bp t, nodeV x]) (o := o) (nx := nx) (Post := fun v o' nx' => v = bE (bPart x b).1 ∧ BTo t (bPart x b).2 ⟨o, nx⟩ ⟨o', nx'⟩) Try.func15 (lookBPart _) rfl (w _ rfl rfl rfl rfl rfl rfl)
  refine ⟨v, H', h1, fun t' b' x' e hb => ?_⟩
  simp only [List.cons.injEq, AV.ptr.injEq, Prod.mk.injEq, AV.agg.injEq, and_true] at e
  obtain ⟨⟨rfl, _⟩, e2⟩ := e
  rw [← h.same hb, ← cNd_inj e2]
  exact h2
theorem bto_ret {t : Nat} {b' : BS} {o : Ob} {nx : Nat} {o1 : Ob} {nx1 : Nat} {y : AObj} {nx2 : Nat} (hB1 : BAt o1 nx1 t b') (k1 : BKeep t o nx o1) (hle : nx ≤ nx1) (h2 : nx1 ≤ nx2) : BTo t b' ⟨o, nx⟩ ⟨upd o1 (nx, 4) y, nx2⟩ := by
  refine ⟨by show nx ≤ nx2; omega, hB1.slot2 (fun i j hj => ?_) h2, fun i j hi a1 a2 a3 => ?_⟩
  · have : j ≠ 4 := by omega
    simp [upd_app, this]
  · have : i ≠ nx := by have : i < nx := hi; omega
    exact (by simp [upd_app, this] : _ = o1 (i, j)).trans (k1 i j hi a1 a2 a3)
theorem part_once {kind set lo hi : Int} {x : Nd} {l : List Nd} {ar bk : Bool} (hkd : kind = 6 ∧ ar = true ∧ bk = true ∨ kind = 7 ∧ ar = false ∧ bk = true ∨ kind = 8 ∧ ar = true ∧ bk = false) (hk : okN x = true) (hpart : ∀ t o nx b, BAt o nx t b → Pre (hN x) b → ∃ v H', RPartB [bp t, nodeV x] ⟨o, nx⟩ v H') {t : Nat} {o : Ob} {nx : Nat} {b : BS} (h : BAt o nx t b) (hp : Pre (hN x + 1) b) (hh : hN x ≤ 1000) :
    ∃ v H', RPartB [bp t, nodeV (.mk kind set lo hi (x :: l))] ⟨o, nx⟩ v H' := by
  refine part_of h fun cr hS hF hU hP hO hR => ?_
  have hb : bPart (.mk kind set lo hi (x :: l)) b = bOnce (bPart x) ar bk b := by
    rw [bPart, bPartL, bNode]
    rcases hkd with ⟨rfl, rfl, rfl⟩ | ⟨rfl, rfl, rfl⟩ | ⟨rfl, rfl, rfl⟩ <;> rfl
  rw [hb]
  have hnew : ∀ y z, ∀ i j, i < nx → upd (upd o (nx, 3) y) (nx, 4) z (i, j) = o (i, j) := fun y z i j hi => by simp (disch := omega) only [upd_fst]
  have hat : cNds (x :: l) = cNd x ++ cNds l := cNds_cons x l
  have hOk := fun o1 nx1 (hB : BAt o1 nx1 t b) => once_ok hk hpart hB hp hh ar bk
  simp only [Try.f15, Option.getD_some]
  rcases hkd with ⟨rfl, rfl, rfl⟩ | ⟨rfl, rfl, rfl⟩ | ⟨rfl, rfl, rfl⟩
  all_goals
    simp (disch := omega) only [go_sem, ↓IntWalk.iteOmega, IntWalk.toNatUp, Nat.reduceEqDiff, Nat.reduceAdd, Nat.reduceMul, Nat.reduceSub, Nat.reduceLT, Nat.reduceLeDiff, Int.reduceToNat, Int.reduceLT, Int.reduceLE, Int.reduceEq, Int.reduceAdd, Int.reduceSub, Int.reduceMul, Int.toNat_natCast, reduceCtorEq, decide_true, decide_false, IntWalk.i64_in, IntWalk.u64_in, IntWalk.u8_in, hat, hO, nzPart]
    refine once_call (hOk _ _ (h.new (hnew _ _) (by omega))) (h.new (hnew _ _) (by omega)) ?_
    intro o1 nx1 hle1 hB1 hk1
    have hx4 : o1 (nx, 4) = some (.row ⟨51, 1, (nx, 4), false, true, [.int .i64 0, .int .i64 0]⟩) := by rw [hk1 _ _ (by omega) (fun e => absurd e (by decide)) (by decide) (by decide)]; simp [upd_app]
    have k1 : BKeep t o nx o1 := (BKeep.new (hnew _ _)).trans hk1 (by omega)
    simp (disch := omega) only [go_sem, ↓IntWalk.iteOmega, IntWalk.toNatUp, Nat.reduceEqDiff, Nat.reduceAdd, Nat.reduceMul, Nat.reduceSub, Nat.reduceLT, Nat.reduceLeDiff, Int.reduceToNat, Int.reduceLT, Int.reduceLE, Int.reduceEq, Int.reduceAdd, Int.reduceSub, Int.reduceMul, Int.toNat_natCast, reduceCtorEq, decide_true, decide_false, IntWalk.i64_in, IntWalk.u64_in, IntWalk.u8_in, hat, hx4, nzPart]
    exact bto_ret hB1 k1 (by omega) (by omega)
theorem part_rep {set lo hi : Int} {x : Nd} {l : List Nd} (hk : okN x = true) (hlo : 0 ≤ lo ∧ lo ≤ 10) (hhi : 0 ≤ hi ∧ hi ≤ 10) (hpart : ∀ t o nx b, BAt o nx t b → Pre (hN x) b → ∃ v H', RPartB [bp t, nodeV x] ⟨o, nx⟩ v H') {t : Nat} {o : Ob} {nx : Nat} {b : BS} (h : BAt o nx t b) (hp : Pre (hN x + 1) b) (hh : hN x ≤ 1000) :
    ∃ v H', RPartB [bp t, nodeV (.mk 9 set lo hi (x :: l))] ⟨o, nx⟩ v H' := by
  refine part_of h fun cr hS hF hU hP hO hR => ?_
  have hb : bPart (.mk 9 set lo hi (x :: l)) b = bRepeat lo hi.toNat (bPart x) b := by
    rw [bPart, bPartL, bNode]; rfl
  rw [hb]
  have hnew : ∀ y z, ∀ i j, i < nx → upd (upd o (nx, 3) y) (nx, 4) z (i, j) = o (i, j) := fun y z i j hi => by simp (disch := omega) only [upd_fst]
  have hcn : cNd (.mk 9 set lo hi (x :: l)) = [.int .i64 9, .int .i64 set, .int .i64 lo, .int .i64 hi, slN (x :: l)] := cNd_mk ..
  have hOk := fun o1 nx1 (hB : BAt o1 nx1 t b) => rep_ok (kind := 9) (set := set) (l := l) hk hlo hhi hpart hB hp hh
  simp only [Try.f15, Option.getD_some]
  simp (disch := omega) only [go_sem, ↓IntWalk.iteOmega, IntWalk.toNatUp, Nat.reduceEqDiff, Nat.reduceAdd, Nat.reduceMul, Nat.reduceSub, Nat.reduceLT, Nat.reduceLeDiff, Int.reduceToNat, Int.reduceLT, Int.reduceLE, Int.reduceEq, Int.reduceAdd, Int.reduceSub, Int.reduceMul, Int.toNat_natCast, reduceCtorEq, decide_true, decide_false, IntWalk.i64_in, IntWalk.u64_in, IntWalk.u8_in, hR, nzPart]
  simp only [← hcn]
  refine rep_call (hOk _ _ (h.new (hnew _ _) (by omega))) (h.new (hnew _ _) (by omega)) ?_
  intro o1 nx1 hle1 hB1 hk1
  have hx4 : o1 (nx, 4) = some (.row ⟨51, 1, (nx, 4), false, true, [.int .i64 0, .int .i64 0]⟩) := by rw [hk1 _ _ (by omega) (fun e => absurd e (by decide)) (by decide) (by decide)]; simp [upd_app]
  have k1 : BKeep t o nx o1 := (BKeep.new (hnew _ _)).trans hk1 (by omega)
  simp (disch := omega) only [go_sem, ↓IntWalk.iteOmega, IntWalk.toNatUp, Nat.reduceEqDiff, Nat.reduceAdd, Nat.reduceMul, Nat.reduceSub, Nat.reduceLT, Nat.reduceLeDiff, Int.reduceToNat, Int.reduceLT, Int.reduceLE, Int.reduceEq, Int.reduceAdd, Int.reduceSub, Int.reduceMul, Int.toNat_natCast, reduceCtorEq, decide_true, decide_false, IntWalk.i64_in, IntWalk.u64_in, IntWalk.u8_in, hx4, nzPart]
  exact bto_ret hB1 k1 (by omega) (by omega)
theorem part_join {set lo hi : Int} {l : List Nd} (hk : okNs l = true) (hl : 0 < l.length ∧ l.length ≤ 10) (hpart : ∀ x ∈ l, ∀ t o nx b, BAt o nx t b → Pre (hN x) b → ∃ v H', RPartB [bp t, nodeV x] ⟨o, nx⟩ v H') {t : Nat} {o : Ob} {nx : Nat} {b : BS} (h : BAt o nx t b) (hp : Pre (hNs l + 1) b) (hh : hNs l ≤ 1000) :
    ∃ v H', RPartB [bp t, nodeV (.mk 4 set lo hi l)] ⟨o, nx⟩ v H' := by
  refine part_of h fun cr hS hF hU hP hO hR => ?_
  have hb : bPart (.mk 4 set lo hi l) b = bJoin (bPartL l) b := by
    rw [bPart, bNode]; rfl
  rw [hb]
  have hnew : ∀ y z, ∀ i j, i < nx → upd (upd o (nx, 3) y) (nx, 4) z (i, j) = o (i, j) := fun y z i j hi => by simp (disch := omega) only [upd_fst]
  have hcn : cNd (.mk 4 set lo hi l) = [.int .i64 4, .int .i64 set, .int .i64 lo, .int .i64 hi, slN l] := cNd_mk ..
  have hOk := fun o1 nx1 (hB : BAt o1 nx1 t b) => parts_ok hk (by omega) hpart (.inl rfl) hB ⟨hp.f, hp.s, by have := hp.n; omega⟩ hh
  simp only [Try.f15, Option.getD_some]
  simp (disch := omega) only [go_sem, ↓IntWalk.iteOmega, IntWalk.toNatUp, Nat.reduceEqDiff, Nat.reduceAdd, Nat.reduceMul, Nat.reduceSub, Nat.reduceLT, Nat.reduceLeDiff, Int.reduceToNat, Int.reduceLT, Int.reduceLE, Int.reduceEq, Int.reduceAdd, Int.reduceSub, Int.reduceMul, Int.toNat_natCast, reduceCtorEq, decide_true, decide_false, IntWalk.i64_in, IntWalk.u64_in, IntWalk.u8_in, hP, nzPart]
  refine parts_call (hOk _ _ (h.new (hnew _ _) (by omega))) (.inl rfl) (h.new (hnew _ _) (by omega)) ?_
  intro v1 o1 nx1 hle1 hB1 hk1 hv1
  have hx4 : o1 (nx, 4) = some (.row ⟨51, 1, (nx, 4), false, true, [.int .i64 0, .int .i64 0]⟩) := by rw [hk1 _ _ (by omega) (fun e => absurd e (by decide)) (by decide) (by decide)]; simp [upd_app]
  have k1 : BKeep t o nx o1 := (BKeep.new (hnew _ _)).trans hk1 (by omega)
  clear hk1
  simp (disch := omega) only [go_sem, ↓IntWalk.iteOmega, IntWalk.toNatUp, Nat.reduceEqDiff, Nat.reduceAdd, Nat.reduceMul, Nat.reduceSub, Nat.reduceLT, Nat.reduceLeDiff, Int.reduceToNat, Int.reduceLT, Int.reduceLE, Int.reduceEq, Int.reduceAdd, Int.reduceSub, Int.reduceMul, Int.toNat_natCast, reduceCtorEq, decide_true, decide_false, IntWalk.i64_in, IntWalk.u64_in, IntWalk.u8_in, hx4, hU, nzPart]
  have hbl := parts_bd (h := hNs l) (bPartL l) b [] (parts_bd' l hk)
  have hbr : bJoin (bPartL l) b = if (bParts (bPartL l) b []).2.n > 1000 ∨ (bParts (bPartL l) b []).1 = [] then ((0, 0), (bParts (bPartL l) b []).2) else ((((bParts (bPartL l) b []).1.headD (0, 0)).1, ((bParts (bPartL l) b []).1.getLastD (0, 0)).2), (bParts (bPartL l) b []).2.frees (links (bParts (bPartL l) b []).1)) := rfl
  obtain ⟨r, hr⟩ : ∃ r, r = bParts (bPartL l) b [] := ⟨_, rfl⟩
  rw [← hr] at hB1 hv1 hbl hbr
  have b1 := hbl.hi
  have b2 := hbl.f4
  have b3 : r.1.length ≤ 10 := by
    rcases hbl.str with e | e
    · rw [e]; simp
    · have := e.1; rw [bPartL_length] at this; simp only [List.length_nil] at this; omega
  have hpn := hp.n
  have hpf := hp.f
  clear hr hbl
  refine full_call (hB1.new (fun _ _ _ => rfl) (by omega)) ?_
  intro o2 nx2 hle2 hB2 hk2
  have k2 : BKeep t o nx o2 := k1.trans (fun i j (hi : i < nx1) => hk2 i j (by omega)) (by omega)
  have hx42 := (fun h => hk2 nx 4 (by omega) (fun e => absurd e (by decide)) (by decide) (by decide) |>.trans h) hx4
  have hv2 := hv1.keep (o' := o2) (nx' := nx2) (fun i hi => hk2 i 21 (by omega) (fun e => absurd e (by decide)) (by decide) (by decide)) (by omega)
  clear hk2 hB1 hx4 hv1 k1
  by_cases hfull : (1000 : Int) < r.2.n
  · rw [if_pos (.inl (by omega))] at hbr
    rw [hbr]
    simp (disch := omega) only [go_sem, ↓IntWalk.iteOmega, IntWalk.toNatUp, Nat.reduceEqDiff, Nat.reduceAdd, Nat.reduceMul, Nat.reduceSub, Nat.reduceLT, Nat.reduceLeDiff, Int.reduceToNat, Int.reduceLT, Int.reduceLE, Int.reduceEq, Int.reduceAdd, Int.reduceSub, Int.reduceMul, Int.toNat_natCast, reduceCtorEq, decide_true, decide_false, IntWalk.i64_in, IntWalk.u64_in, IntWalk.u8_in, hfull, hx42, nzPart]
    exact bto_ret hB2 k2 (by omega) (by omega)
  by_cases hnil : r.1 = []
  · rw [if_pos (.inr hnil)] at hbr
    rw [hbr]
    rcases hv2 with ⟨rfl, e1, e2⟩ | ⟨i1, g1, rfl, hi1, hrow, hlen'⟩
    · simp (disch := omega) only [go_sem, ↓IntWalk.iteOmega, IntWalk.toNatUp, Nat.reduceEqDiff, Nat.reduceAdd, Nat.reduceMul, Nat.reduceSub, Nat.reduceLT, Nat.reduceLeDiff, Int.reduceToNat, Int.reduceLT, Int.reduceLE, Int.reduceEq, Int.reduceAdd, Int.reduceSub, Int.reduceMul, Int.toNat_natCast, reduceCtorEq, decide_true, decide_false, IntWalk.i64_in, IntWalk.u64_in, IntWalk.u8_in, hfull, hx42, nzPart]
      exact bto_ret hB2 k2 (by omega) (by omega)
    · have hz : (r.1.length : Int) = 0 := by rw [hnil]; rfl
      simp (disch := omega) only [go_sem, ↓IntWalk.iteOmega, IntWalk.toNatUp, Nat.reduceEqDiff, Nat.reduceAdd, Nat.reduceMul, Nat.reduceSub, Nat.reduceLT, Nat.reduceLeDiff, Int.reduceToNat, Int.reduceLT, Int.reduceLE, Int.reduceEq, Int.reduceAdd, Int.reduceSub, Int.reduceMul, Int.toNat_natCast, reduceCtorEq, decide_true, decide_false, IntWalk.i64_in, IntWalk.u64_in, IntWalk.u8_in, hfull, hx42, nzPart, hz]
      exact bto_ret hB2 k2 (by omega) (by omega)
  · rw [if_neg (fun h => h.elim (fun h => hfull (by omega)) hnil)] at hbr
    have hpos : 0 < r.1.length := List.length_pos_iff.2 hnil
    rcases hv2 with ⟨rfl, e1, e2⟩ | ⟨i1, g1, rfl, hi1, hrow, hlen'⟩
    · omega
    · have hz : ¬ (r.1.length : Int) = 0 := by omega
      have hat0 : take1 false 1 (cP r.1) = some (.int .i64 (r.1.headD (0, 0)).1) := by
        cases hrr : r.1 with
        | nil => exact absurd hrr hnil
        | cons p pl => rfl
      have hat1 : (cP r.1).drop ((r.1.length - 1) * 2 + 1) = .int .i64 (r.1.getLastD (0, 0)).2 :: [] := by
        have e0 : r.1.drop (r.1.length - 1 + 1) = [] := List.drop_of_length_le (by omega)
        rw [← List.drop_drop, cP_at (by omega), e0]
        have : r.1.getLastD (0, 0) = r.1.getD (r.1.length - 1) (0, 0) := by
          rw [List.getLastD_eq_getLast?, List.getLast?_eq_getElem?, List.getD_eq_getElem?_getD]
        rw [this]; rfl
      simp (disch := omega) only [go_sem, ↓IntWalk.iteOmega, IntWalk.toNatUp, Nat.reduceEqDiff, Nat.reduceAdd, Nat.reduceMul, Nat.reduceSub, Nat.reduceLT, Nat.reduceLeDiff, Int.reduceToNat, Int.reduceLT, Int.reduceLE, Int.reduceEq, Int.reduceAdd, Int.reduceSub, Int.reduceMul, Int.toNat_natCast, reduceCtorEq, decide_true, decide_false, IntWalk.i64_in, IntWalk.u64_in, IntWalk.u8_in, hfull, hx42, nzPart, hz]
      refine bjoin_loop hF (T := r.2.frees (links r.1)) (o0 := o) (nx0 := nx) (p := r.1) (by omega) hpos (Nat.le_refl nx) (by omega) (by omega) (hB2.new (fun _ _ _ => rfl) (by omega)) rfl (by omega) (by omega) hrow (by simp (disch := omega) only [go_sem, ↓IntWalk.iteOmega, IntWalk.toNatUp, Nat.reduceEqDiff, Nat.reduceAdd, Nat.reduceMul, Nat.reduceSub, Nat.reduceLT, Nat.reduceLeDiff, Int.reduceToNat, Int.reduceLT, Int.reduceLE, Int.reduceEq, Int.reduceAdd, Int.reduceSub, Int.reduceMul, Int.toNat_natCast, reduceCtorEq, decide_true, decide_false, IntWalk.i64_in, IntWalk.u64_in, IntWalk.u8_in]) (by simp (disch := omega) only [go_sem, ↓IntWalk.iteOmega, IntWalk.toNatUp, Nat.reduceEqDiff, Nat.reduceAdd, Nat.reduceMul, Nat.reduceSub, Nat.reduceLT, Nat.reduceLeDiff, Int.reduceToNat, Int.reduceLT, Int.reduceLE, Int.reduceEq, Int.reduceAdd, Int.reduceSub, Int.reduceMul, Int.toNat_natCast, reduceCtorEq, decide_true, decide_false, IntWalk.i64_in, IntWalk.u64_in, IntWalk.u8_in]) (by simp (disch := omega) only [go_sem, ↓IntWalk.iteOmega, IntWalk.toNatUp, Nat.reduceEqDiff, Nat.reduceAdd, Nat.reduceMul, Nat.reduceSub, Nat.reduceLT, Nat.reduceLeDiff, Int.reduceToNat, Int.reduceLT, Int.reduceLE, Int.reduceEq, Int.reduceAdd, Int.reduceSub, Int.reduceMul, Int.toNat_natCast, reduceCtorEq, decide_true, decide_false, IntWalk.i64_in, IntWalk.u64_in, IntWalk.u8_in]) (by simp (disch := omega) only [go_sem, ↓IntWalk.iteOmega, IntWalk.toNatUp, Nat.reduceEqDiff, Nat.reduceAdd, Nat.reduceMul, Nat.reduceSub, Nat.reduceLT, Nat.reduceLeDiff, Int.reduceToNat, Int.reduceLT, Int.reduceLE, Int.reduceEq, Int.reduceAdd, Int.reduceSub, Int.reduceMul, Int.toNat_natCast, reduceCtorEq, decide_true, decide_false, IntWalk.i64_in, IntWalk.u64_in, IntWalk.u8_in]) ⟨by simp (disch := omega) only [go_sem, ↓IntWalk.iteOmega, IntWalk.toNatUp, Nat.reduceEqDiff, Nat.reduceAdd, Nat.reduceMul, Nat.reduceSub, Nat.reduceLT, Nat.reduceLeDiff, Int.reduceToNat, Int.reduceLT, Int.reduceLE, Int.reduceEq, Int.reduceAdd, Int.reduceSub, Int.reduceMul, Int.toNat_natCast, reduceCtorEq, decide_true, decide_false, IntWalk.i64_in, IntWalk.u64_in, IntWalk.u8_in], by simp (disch := omega) only [go_sem, ↓IntWalk.iteOmega, IntWalk.toNatUp, Nat.reduceEqDiff, Nat.reduceAdd, Nat.reduceMul, Nat.reduceSub, Nat.reduceLT, Nat.reduceLeDiff, Int.reduceToNat, Int.reduceLT, Int.reduceLE, Int.reduceEq, Int.reduceAdd, Int.reduceSub, Int.reduceMul, Int.toNat_natCast, reduceCtorEq, decide_true, decide_false, IntWalk.i64_in, IntWalk.u64_in, IntWalk.u8_in], hx42, k2⟩ ?_
      intro a o3 nx3 hn3 hrn3 hB3 hrow3 ha5 ha0 ha4 hx43 k3
      rw [hbr]
      simp (disch := omega) only [go_sem, ↓IntWalk.iteOmega, IntWalk.toNatUp, Nat.reduceEqDiff, Nat.reduceAdd, Nat.reduceMul, Nat.reduceSub, Nat.reduceLT, Nat.reduceLeDiff, Int.reduceToNat, Int.reduceLT, Int.reduceLE, Int.reduceEq, Int.reduceAdd, Int.reduceSub, Int.reduceMul, Int.toNat_natCast, reduceCtorEq, decide_true, decide_false, IntWalk.i64_in, IntWalk.u64_in, IntWalk.u8_in, hx43, nzPart, ha5, ha0, ha4, hrow3, hat1, hat0]
      exact bto_ret hB3 k3 (by omega) (by omega)
theorem part_union {set lo hi : Int} {l : List Nd} (hk : okNs l = true) (hl : 0 < l.length ∧ l.length ≤ 10) (hpart : ∀ x ∈ l, ∀ t o nx b, BAt o nx t b → Pre (hN x) b → ∃ v H', RPartB [bp t, nodeV x] ⟨o, nx⟩ v H') {t : Nat} {o : Ob} {nx : Nat} {b : BS} (h : BAt o nx t b) (hp : Pre (hNs l + 1) b) (hh : hNs l ≤ 1000) :
    ∃ v H', RPartB [bp t, nodeV (.mk 5 set lo hi l)] ⟨o, nx⟩ v H' := by
  refine part_of h fun cr hS hF hU hP hO hR => ?_
  have hb : bPart (.mk 5 set lo hi l) b = bUnion (bPartL l) b := by
    rw [bPart, bNode]; rfl
  rw [hb]
  have hnew : ∀ y z, ∀ i j, i < nx → upd (upd o (nx, 3) y) (nx, 4) z (i, j) = o (i, j) := fun y z i j hi => by simp (disch := omega) only [upd_fst]
  have hcn : cNd (.mk 5 set lo hi l) = [.int .i64 5, .int .i64 set, .int .i64 lo, .int .i64 hi, slN l] := cNd_mk ..
  have e1 : b.state.n = b.n + 1 := rfl
  have e2 : b.state.f.length = b.f.length := rfl
  have e3 : b.state.s.length = b.s.length := rfl
  have hp1 := hp.f
  have hp2 := hp.s
  have hp3 := hp.n
  have hOk := fun o1 nx1 (hB : BAt o1 nx1 t b.state) => parts_ok hk (by omega) hpart (.inl rfl) hB ⟨by omega, by omega, by omega⟩ hh
  simp only [Try.f15, Option.getD_some]
  simp (disch := omega) only [go_sem, ↓IntWalk.iteOmega, IntWalk.toNatUp, Nat.reduceEqDiff, Nat.reduceAdd, Nat.reduceMul, Nat.reduceSub, Nat.reduceLT, Nat.reduceLeDiff, Int.reduceToNat, Int.reduceLT, Int.reduceLE, Int.reduceEq, Int.reduceAdd, Int.reduceSub, Int.reduceMul, Int.toNat_natCast, reduceCtorEq, decide_true, decide_false, IntWalk.i64_in, IntWalk.u64_in, IntWalk.u8_in, hS, nzPart]
  refine state_call (h.new (hnew _ _) (by omega)) (by omega) ?_
  intro o1 nx1 hle1 hB1 hk1
  have hx4 : o1 (nx, 4) = some (.row ⟨51, 1, (nx, 4), false, true, [.int .i64 0, .int .i64 0]⟩) := by rw [hk1 _ _ (by omega) (fun e => absurd e (by decide)) (by decide) (by decide)]; simp [upd_app]
  have hx3 : o1 (nx, 3) = some (.row ⟨28, 1, (nx, 3), false, true, [.int .i64 5, .int .i64 set, .int .i64 lo, .int .i64 hi, slN l]⟩) := by rw [hk1 _ _ (by omega) (fun e => absurd e (by decide)) (by decide) (by decide)]; simp [upd_app]
  have k1 : BKeep t o nx o1 := (BKeep.new (hnew _ _)).trans hk1 (by omega)
  clear hk1
  simp (disch := omega) only [go_sem, ↓IntWalk.iteOmega, IntWalk.toNatUp, Nat.reduceEqDiff, Nat.reduceAdd, Nat.reduceMul, Nat.reduceSub, Nat.reduceLT, Nat.reduceLeDiff, Int.reduceToNat, Int.reduceLT, Int.reduceLE, Int.reduceEq, Int.reduceAdd, Int.reduceSub, Int.reduceMul, Int.toNat_natCast, reduceCtorEq, decide_true, decide_false, IntWalk.i64_in, IntWalk.u64_in, IntWalk.u8_in, hx3, hP, nzPart]
  refine parts_call (hOk _ _ (hB1.new (fun _ _ _ => rfl) (by omega))) (.inl rfl) (hB1.new (fun _ _ _ => rfl) (by omega)) ?_
  intro v1 o2 nx2 hle2 hB2 hk2 hv2
  have k2 : BKeep t o nx o2 := k1.trans (fun i j (hi : i < nx1) => hk2 i j (by omega)) (by omega)
  have hx42 := (fun h => hk2 nx 4 (by omega) (fun e => absurd e (by decide)) (by decide) (by decide) |>.trans h) hx4
  clear hk2 hB1 hx4 hx3 k1
  have hbl := parts_bd (h := hNs l) (bPartL l) b.state [] (parts_bd' l hk)
  have hbr : bUnion (bPartL l) b = (((b.n : Int), ((bParts (bPartL l) b.state []).2.n : Int)), (bParts (bPartL l) b.state []).2.state.frees (uLinks b.n (bParts (bPartL l) b.state []).2.n (bParts (bPartL l) b.state []).1)) := rfl
  obtain ⟨r, hr⟩ : ∃ r, r = bParts (bPartL l) b.state [] := ⟨_, rfl⟩
  rw [← hr] at hB2 hv2 hbl hbr
  have b1 := hbl.hi
  have b2 := hbl.f4
  have b3 : r.1.length ≤ 10 := by
    rcases hbl.str with e | e
    · rw [e]; simp
    · have := e.1; rw [bPartL_length] at this; simp only [List.length_nil] at this; omega
  have b4 : r.2.state.f.length = r.2.f.length := rfl
  clear hr hbl
  simp (disch := omega) only [go_sem, ↓IntWalk.iteOmega, IntWalk.toNatUp, Nat.reduceEqDiff, Nat.reduceAdd, Nat.reduceMul, Nat.reduceSub, Nat.reduceLT, Nat.reduceLeDiff, Int.reduceToNat, Int.reduceLT, Int.reduceLE, Int.reduceEq, Int.reduceAdd, Int.reduceSub, Int.reduceMul, Int.toNat_natCast, reduceCtorEq, decide_true, decide_false, IntWalk.i64_in, IntWalk.u64_in, IntWalk.u8_in, hS, nzPart]
  refine state_call (hB2.new (fun _ _ _ => rfl) (by omega)) (by omega) ?_
  intro o3 nx3 hle3 hB3 hk3
  have k3 : BKeep t o nx o3 := k2.trans (fun i j (hi : i < nx2) => hk3 i j (by omega)) (by omega)
  have hx43 := (fun h => hk3 nx 4 (by omega) (fun e => absurd e (by decide)) (by decide) (by decide) |>.trans h) hx42
  have hv3 := hv2.keep (o' := o3) (nx' := nx3) (fun i hi => hk3 i 21 (by omega) (fun e => absurd e (by decide)) (by decide) (by decide)) (by omega)
  clear hk3 hB2 hx42 hv2 k2
  have hv3' := hv3
  rcases hv3 with ⟨rfl, e1, e2⟩ | ⟨i1, g1, rfl, hi1, hrow, hlen'⟩
  all_goals
    simp (disch := omega) only [go_sem, ↓IntWalk.iteOmega, IntWalk.toNatUp, Nat.reduceEqDiff, Nat.reduceAdd, Nat.reduceMul, Nat.reduceSub, Nat.reduceLT, Nat.reduceLeDiff, Int.reduceToNat, Int.reduceLT, Int.reduceLE, Int.reduceEq, Int.reduceAdd, Int.reduceSub, Int.reduceMul, Int.toNat_natCast, reduceCtorEq, decide_true, decide_false, IntWalk.i64_in, IntWalk.u64_in, IntWalk.u8_in, nzPart]
    refine bunion_loop hF (n0 := b.n) (e := r.2.n) (p := r.1) (o0 := o) (nx0 := nx) (by omega) (Nat.le_refl nx) (by omega) (by omega) (hB3.new (fun _ _ _ => rfl) (by omega)) rfl (by omega) (hv3'.keep (fun _ _ => rfl) (by omega)) (by simp (disch := omega) only [go_sem, ↓IntWalk.iteOmega, IntWalk.toNatUp, Nat.reduceEqDiff, Nat.reduceAdd, Nat.reduceMul, Nat.reduceSub, Nat.reduceLT, Nat.reduceLeDiff, Int.reduceToNat, Int.reduceLT, Int.reduceLE, Int.reduceEq, Int.reduceAdd, Int.reduceSub, Int.reduceMul, Int.toNat_natCast, reduceCtorEq, decide_true, decide_false, IntWalk.i64_in, IntWalk.u64_in, IntWalk.u8_in]) (by first | (rw [e1]; simp (disch := omega) only [go_sem, ↓IntWalk.iteOmega, IntWalk.toNatUp, Nat.reduceEqDiff, Nat.reduceAdd, Nat.reduceMul, Nat.reduceSub, Nat.reduceLT, Nat.reduceLeDiff, Int.reduceToNat, Int.reduceLT, Int.reduceLE, Int.reduceEq, Int.reduceAdd, Int.reduceSub, Int.reduceMul, Int.toNat_natCast, reduceCtorEq, decide_true, decide_false, IntWalk.i64_in, IntWalk.u64_in, IntWalk.u8_in]) | simp (disch := omega) only [go_sem, ↓IntWalk.iteOmega, IntWalk.toNatUp, Nat.reduceEqDiff, Nat.reduceAdd, Nat.reduceMul, Nat.reduceSub, Nat.reduceLT, Nat.reduceLeDiff, Int.reduceToNat, Int.reduceLT, Int.reduceLE, Int.reduceEq, Int.reduceAdd, Int.reduceSub, Int.reduceMul, Int.toNat_natCast, reduceCtorEq, decide_true, decide_false, IntWalk.i64_in, IntWalk.u64_in, IntWalk.u8_in]) (by simp (disch := omega) only [go_sem, ↓IntWalk.iteOmega, IntWalk.toNatUp, Nat.reduceEqDiff, Nat.reduceAdd, Nat.reduceMul, Nat.reduceSub, Nat.reduceLT, Nat.reduceLeDiff, Int.reduceToNat, Int.reduceLT, Int.reduceLE, Int.reduceEq, Int.reduceAdd, Int.reduceSub, Int.reduceMul, Int.toNat_natCast, reduceCtorEq, decide_true, decide_false, IntWalk.i64_in, IntWalk.u64_in, IntWalk.u8_in]) ⟨by simp (disch := omega) only [go_sem, ↓IntWalk.iteOmega, IntWalk.toNatUp, Nat.reduceEqDiff, Nat.reduceAdd, Nat.reduceMul, Nat.reduceSub, Nat.reduceLT, Nat.reduceLeDiff, Int.reduceToNat, Int.reduceLT, Int.reduceLE, Int.reduceEq, Int.reduceAdd, Int.reduceSub, Int.reduceMul, Int.toNat_natCast, reduceCtorEq, decide_true, decide_false, IntWalk.i64_in, IntWalk.u64_in, IntWalk.u8_in], by simp (disch := omega) only [go_sem, ↓IntWalk.iteOmega, IntWalk.toNatUp, Nat.reduceEqDiff, Nat.reduceAdd, Nat.reduceMul, Nat.reduceSub, Nat.reduceLT, Nat.reduceLeDiff, Int.reduceToNat, Int.reduceLT, Int.reduceLE, Int.reduceEq, Int.reduceAdd, Int.reduceSub, Int.reduceMul, Int.toNat_natCast, reduceCtorEq, decide_true, decide_false, IntWalk.i64_in, IntWalk.u64_in, IntWalk.u8_in], hx43, by simp (disch := omega) only [go_sem, ↓IntWalk.iteOmega, IntWalk.toNatUp, Nat.reduceEqDiff, Nat.reduceAdd, Nat.reduceMul, Nat.reduceSub, Nat.reduceLT, Nat.reduceLeDiff, Int.reduceToNat, Int.reduceLT, Int.reduceLE, Int.reduceEq, Int.reduceAdd, Int.reduceSub, Int.reduceMul, Int.toNat_natCast, reduceCtorEq, decide_true, decide_false, IntWalk.i64_in, IntWalk.u64_in, IntWalk.u8_in], by simp (disch := omega) only [go_sem, ↓IntWalk.iteOmega, IntWalk.toNatUp, Nat.reduceEqDiff, Nat.reduceAdd, Nat.reduceMul, Nat.reduceSub, Nat.reduceLT, Nat.reduceLeDiff, Int.reduceToNat, Int.reduceLT, Int.reduceLE, Int.reduceEq, Int.reduceAdd, Int.reduceSub, Int.reduceMul, Int.toNat_natCast, reduceCtorEq, decide_true, decide_false, IntWalk.i64_in, IntWalk.u64_in, IntWalk.u8_in], k3⟩ ?_
    intro a o4 nx4 hn4 hrn4 hB4 ha0 ha4 hx44 ha8 ha10 k4
    rw [hbr]
    simp (disch := omega) only [go_sem, ↓IntWalk.iteOmega, IntWalk.toNatUp, Nat.reduceEqDiff, Nat.reduceAdd, Nat.reduceMul, Nat.reduceSub, Nat.reduceLT, Nat.reduceLeDiff, Int.reduceToNat, Int.reduceLT, Int.reduceLE, Int.reduceEq, Int.reduceAdd, Int.reduceSub, Int.reduceMul, Int.toNat_natCast, reduceCtorEq, decide_true, decide_false, IntWalk.i64_in, IntWalk.u64_in, IntWalk.u8_in, hx44, nzPart, ha8, ha10, ha0, ha4]
    exact bto_ret hB4 k4 (by omega) (by omega)
end Go.Proofs.Ytfmijoglolecgaa.A
/- The builder: part's leaves; part of any tree. -/
namespace Go.Proofs.Ytfmijoglolecgaa.A
open Go
set_option maxRecDepth 20000
theorem part_leaf {kind set lo hi : Int} {l : List Nd} (h4 : kind ≠ 4) (h5 : kind ≠ 5) (h6 : kind ≠ 6) (h7 : kind ≠ 7) (h8 : kind ≠ 8) (h9 : kind ≠ 9) {t : Nat} {o : Ob} {nx : Nat} {b : BS} (h : BAt o nx t b) (hp : Pre 1 b) :
    ∃ v H', RPartB [bp t, nodeV (.mk kind set lo hi l)] ⟨o, nx⟩ v H' := by
  refine part_of h fun cr hS hF hU hP hO hR => ?_
  have hb : bPart (.mk kind set lo hi l) b = bLeaf kind set b := by
    rw [bPart, bNode, if_neg h4, if_neg h5, if_neg h6, if_neg h7, if_neg h8, if_neg h9]
  rw [hb]
  have hnew : ∀ y z, ∀ i j, i < nx → upd (upd o (nx, 3) y) (nx, 4) z (i, j) = o (i, j) := fun y z i j hi => by simp (disch := omega) only [upd_fst]
  have e1 : b.state.n = b.n + 1 := rfl
  have e2 : b.state.f.length = b.f.length := rfl
  have e3 : b.state.s.length = b.s.length := rfl
  have hp1 := hp.f
  have hp2 := hp.s
  have hp3 := hp.n
  have htn : t < nx := by obtain ⟨vS, vF, h⟩ := h; exact h.lt
  simp only [Try.f15, Option.getD_some]
  simp (disch := omega) only [go_sem, ↓IntWalk.iteOmega, IntWalk.toNatUp, Nat.reduceEqDiff, Nat.reduceAdd, Nat.reduceMul, Nat.reduceSub, Nat.reduceLT, Nat.reduceLeDiff, Int.reduceToNat, Int.reduceLT, Int.reduceLE, Int.reduceEq, Int.reduceAdd, Int.reduceSub, Int.reduceMul, Int.toNat_natCast, reduceCtorEq, decide_true, decide_false, IntWalk.i64_in, IntWalk.u64_in, IntWalk.u8_in, hS, nzPart, h4, h5, h6, h7, h8, h9]
  refine state_call (h.new (hnew _ _) (by omega)) (by omega) ?_
  intro o1 nx1 hle1 hB1 hk1
  have hx4 : o1 (nx, 4) = some (.row ⟨51, 1, (nx, 4), false, true, [.int .i64 0, .int .i64 0]⟩) := by rw [hk1 _ _ (by omega) (fun e => absurd e (by decide)) (by decide) (by decide)]; simp [upd_app]
  have hx3 : o1 (nx, 3) = some (.row ⟨28, 1, (nx, 3), false, true, [.int .i64 kind, .int .i64 set, .int .i64 lo, .int .i64 hi, slN l]⟩) := by rw [hk1 _ _ (by omega) (fun e => absurd e (by decide)) (by decide) (by decide)]; simp [upd_app]
  have k1 : BKeep t o nx o1 := (BKeep.new (hnew _ _)).trans hk1 (by omega)
  clear hk1
  simp (disch := omega) only [go_sem, ↓IntWalk.iteOmega, IntWalk.toNatUp, Nat.reduceEqDiff, Nat.reduceAdd, Nat.reduceMul, Nat.reduceSub, Nat.reduceLT, Nat.reduceLeDiff, Int.reduceToNat, Int.reduceLT, Int.reduceLE, Int.reduceEq, Int.reduceAdd, Int.reduceSub, Int.reduceMul, Int.toNat_natCast, reduceCtorEq, decide_true, decide_false, IntWalk.i64_in, IntWalk.u64_in, IntWalk.u8_in, hx3, hS, nzPart]
  refine state_call (hB1.new (fun _ _ _ => rfl) (by omega)) (by omega) ?_
  intro o2 nx2 hle2 hB2 hk2
  have k2 : BKeep t o nx o2 := k1.trans (fun i j (hi : i < nx1) => hk2 i j (by omega)) (by omega)
  have hx42 := (fun h => hk2 nx 4 (by omega) (fun e => absurd e (by decide)) (by decide) (by decide) |>.trans h) hx4
  have hx32 := (fun h => hk2 nx 3 (by omega) (fun e => absurd e (by decide)) (by decide) (by decide) |>.trans h) hx3
  clear hk2 hB1 hx4 hx3 k1
  have hb2 : bLeaf kind set b = (((b.n : Int), (b.n : Int) + 1), if kind = 1 then b.state.state.step b.n (b.n + 1) set else if kind = 3 then b.state.state.free b.n (b.n + 1) else b.state.state) := rfl
  have hn1 : ((b.state.n : Nat) : Int) = (b.n : Int) + 1 := by rw [e1]; omega
  rw [hb2]
  by_cases k1' : kind = 1
  · rw [if_pos k1']
    subst k1'
    obtain ⟨vS, vF, hB⟩ := hB2
    have r1 := hB.lt
    have r2 := hB.row
    have r3 := hB.s.ok
    have r4 := hB.f.ok
    have hs := hB.s
    have hf := hB.f
    have hb3 : (b.state.state.step b.n (b.n + 1) set).s.length = b.s.length + 1 := by show List.length (_ ++ _) = _; rw [List.length_append]; rfl
    have hb4 : b.state.state.s.length = b.s.length := rfl
    have hb5 : cS (b.state.state.step b.n (b.n + 1) set).s = cS b.state.state.s ++ [.int .i64 b.n, .int .i64 (b.n + 1), .int .i64 set] := by show cS (_ ++ _) = _; rw [cS_app]; rfl
    have hb6 : (b.state.state.step b.n (b.n + 1) set).f = b.state.state.f := rfl
    have key : ∀ (i : Nat) (g : Tag) (y z : AObj) (w v : AV), nx ≤ i ∨ i < nx → i < nx2 + 2 → z = .row ⟨61, 3, g, false, true, cS b.state.state.s ++ [.int .i64 b.n, .int .i64 (b.n + 1), .int .i64 set]⟩ → v = .ref (i, 139) g 0 (b.s.length + 1) → BAt (upd (upd (upd o2 (nx2 + 1, 138) y) (i, 139) z) (t, 8) (.row ⟨49, 1, (t, 8), false, true, [.int .i64 b.state.state.n, .int .i64 0, .int .i64 0, v, vF]⟩)) (nx2 + 4) t (b.state.state.step b.n (b.n + 1) set) ∧ BKeep t o nx (upd (upd (upd o2 (nx2 + 1, 138) y) (i, 139) z) (t, 8) (.row ⟨49, 1, (t, 8), false, true, [.int .i64 b.state.state.n, .int .i64 0, .int .i64 0, v, vF]⟩)) := by
      intro i g y z w v _ hi hz hv
      subst hz hv
      refine ⟨⟨_, vF, ⟨by omega, upd_same _ _ _, .inr ⟨i, g, by rw [hb3], by omega, ?_, ?_⟩, ?_⟩⟩, fun i' j' hi' a1 a2 a3 => ?_⟩
      · rw [hb5]; simp [upd_app]
      · rw [cS_length]
      · rw [hb6]; exact hf.keep (fun i' hi' => by simp [upd_app]) (by omega)
      · rw [← k2 i' j' hi' a1 a2 a3]
        have n1 : i' ≠ nx2 + 1 := by omega
        have n2 : ¬ (j' = 8 ∧ i' = t) := fun h => a1 h.1 h.2
        by_cases hj : j' = 8
        · have := a1 hj
          simp [upd_app, n1, hj, this]
        · simp [upd_app, n1, hj, a2]
    rcases hB.s with ⟨rfl, q2, q3⟩ | ⟨i1, g1, rfl, hi1, hrow, hlen⟩
    · simp (disch := omega) only [go_sem, ↓IntWalk.iteOmega, IntWalk.toNatUp, Nat.reduceEqDiff, Nat.reduceAdd, Nat.reduceMul, Nat.reduceSub, Nat.reduceLT, Nat.reduceLeDiff, Int.reduceToNat, Int.reduceLT, Int.reduceLE, Int.reduceEq, Int.reduceAdd, Int.reduceSub, Int.reduceMul, Int.toNat_natCast, reduceCtorEq, decide_true, decide_false, IntWalk.i64_in, IntWalk.u64_in, IntWalk.u8_in, hx32, hx42, hn1, r2, r3, r4, nzPart]
      have q4 : b.s.length = 0 := by omega
      obtain ⟨f1, f2⟩ := key (nx2 + 1) (nx2 + 1, 139) (.row ⟨61, 3, (nx2 + 1, 138), false, true, [.int .i64 b.n, .int .i64 (b.n + 1), .int .i64 set]⟩) (.row ⟨61, 3, (nx2 + 1, 139), false, true, [.int .i64 b.n, .int .i64 (b.n + 1), .int .i64 set]⟩) .nil (.ref (nx2 + 1, 139) (nx2 + 1, 139) 0 1) (by omega) (by omega) (by rw [q3]; rfl) (by rw [q4])
      exact bto_ret f1 f2 (by omega) (by omega)
    · simp (disch := omega) only [go_sem, ↓IntWalk.iteOmega, IntWalk.toNatUp, Nat.reduceEqDiff, Nat.reduceAdd, Nat.reduceMul, Nat.reduceSub, Nat.reduceLT, Nat.reduceLeDiff, Int.reduceToNat, Int.reduceLT, Int.reduceLE, Int.reduceEq, Int.reduceAdd, Int.reduceSub, Int.reduceMul, Int.toNat_natCast, reduceCtorEq, decide_true, decide_false, IntWalk.i64_in, IntWalk.u64_in, IntWalk.u8_in, hx32, hx42, hn1, r2, r3, r4, nzPart, hrow]
      obtain ⟨f1, f2⟩ := key i1 (nx2 + 1, 139) (.row ⟨61, 3, (nx2 + 1, 138), false, true, [.int .i64 b.n, .int .i64 (b.n + 1), .int .i64 set]⟩) _ .nil (.ref (i1, 139) (nx2 + 1, 139) 0 (b.state.state.s.length + 1)) (by omega) (by omega) rfl (by rw [hb4])
      exact bto_ret f1 f2 (by omega) (by omega)
  by_cases k3' : kind = 3
  · rw [if_neg k1', if_pos k3']
    subst k3'
    simp (disch := omega) only [go_sem, ↓IntWalk.iteOmega, IntWalk.toNatUp, Nat.reduceEqDiff, Nat.reduceAdd, Nat.reduceMul, Nat.reduceSub, Nat.reduceLT, Nat.reduceLeDiff, Int.reduceToNat, Int.reduceLT, Int.reduceLE, Int.reduceEq, Int.reduceAdd, Int.reduceSub, Int.reduceMul, Int.toNat_natCast, reduceCtorEq, decide_true, decide_false, IntWalk.i64_in, IntWalk.u64_in, IntWalk.u8_in, hx32, hx42, hF, hn1, nzPart]
    refine free_call (hB2.new (fun _ _ _ => rfl) (by omega)) _ _ (by show b.f.length ≤ _; omega) ?_
    intro o3 nx3 hle3 hB3 hk3
    have k3 : BKeep t o nx o3 := k2.trans (fun i j (hi : i < nx2) => hk3 i j (by omega)) (by omega)
    have hx43 := (fun h => hk3 nx 4 (by omega) (fun e => absurd e (by decide)) (by decide) (by decide) |>.trans h) hx42
    simp (disch := omega) only [go_sem, ↓IntWalk.iteOmega, IntWalk.toNatUp, Nat.reduceEqDiff, Nat.reduceAdd, Nat.reduceMul, Nat.reduceSub, Nat.reduceLT, Nat.reduceLeDiff, Int.reduceToNat, Int.reduceLT, Int.reduceLE, Int.reduceEq, Int.reduceAdd, Int.reduceSub, Int.reduceMul, Int.toNat_natCast, reduceCtorEq, decide_true, decide_false, IntWalk.i64_in, IntWalk.u64_in, IntWalk.u8_in, hx43, nzPart]
    exact bto_ret hB3 k3 (by omega) (by omega)
  · rw [if_neg k1', if_neg k3']
    simp (disch := omega) only [go_sem, ↓IntWalk.iteOmega, IntWalk.toNatUp, Nat.reduceEqDiff, Nat.reduceAdd, Nat.reduceMul, Nat.reduceSub, Nat.reduceLT, Nat.reduceLeDiff, Int.reduceToNat, Int.reduceLT, Int.reduceLE, Int.reduceEq, Int.reduceAdd, Int.reduceSub, Int.reduceMul, Int.toNat_natCast, reduceCtorEq, decide_true, decide_false, IntWalk.i64_in, IntWalk.u64_in, IntWalk.u8_in, hx32, hx42, hn1, nzPart, k1', k3']
    exact bto_ret hB2 k2 (by omega) (by omega)
mutual
theorem part_all : ∀ (x : Nd), okN x = true → hN x ≤ 1000 → ∀ (t : Nat) (o : Ob) (nx : Nat) (b : BS), BAt o nx t b → Pre (hN x) b → ∃ v H', RPartB [bp t, nodeV x] ⟨o, nx⟩ v H'
  | .mk kind set lo hi l, hk, hh, t, o, nx, b, h, hp => by
    have hl := parts_all l
    rw [okN, Bool.and_eq_true] at hk
    obtain ⟨hk1, hk2⟩ := hk
    rw [hN] at hp hh
    have hl' := hl hk1 (by omega)
    have hhead : ∀ x m, l = x :: m → okN x = true ∧ hN x ≤ hNs l ∧ ∀ t o nx b, BAt o nx t b → Pre (hN x) b → ∃ v H', RPartB [bp t, nodeV x] ⟨o, nx⟩ v H' := by
      rintro x m rfl
      rw [okNs, Bool.and_eq_true] at hk1
      exact ⟨hk1.1, by rw [hNs]; omega, hl' x (List.mem_cons_self)⟩
    have hpre : ∀ x, hN x ≤ hNs l → Pre (hN x + 1) b := fun x hx => ⟨hp.f, hp.s, by have := hp.n; omega⟩
    by_cases k4 : kind = 4
    · rw [if_pos (.inl k4), decide_eq_true_eq] at hk2
      subst k4
      exact part_join hk1 hk2 hl' h hp (by omega)
    by_cases k5 : kind = 5
    · rw [if_pos (.inr (.inl k5)), decide_eq_true_eq] at hk2
      subst k5
      exact part_union hk1 hk2 hl' h hp (by omega)
    by_cases k6 : kind = 6
    · rw [if_pos (.inr (.inr (.inl k6))), decide_eq_true_eq] at hk2
      obtain ⟨x, m, rfl⟩ := List.exists_cons_of_length_pos hk2.1
      obtain ⟨q1, q2, q3⟩ := hhead x m rfl
      exact part_once (.inl ⟨k6, rfl, rfl⟩) q1 q3 h (hpre x q2) (by omega)
    by_cases k7 : kind = 7
    · rw [if_pos (.inr (.inr (.inr (.inl k7)))), decide_eq_true_eq] at hk2
      obtain ⟨x, m, rfl⟩ := List.exists_cons_of_length_pos hk2.1
      obtain ⟨q1, q2, q3⟩ := hhead x m rfl
      exact part_once (.inr (.inl ⟨k7, rfl, rfl⟩)) q1 q3 h (hpre x q2) (by omega)
    by_cases k8 : kind = 8
    · rw [if_pos (.inr (.inr (.inr (.inr k8)))), decide_eq_true_eq] at hk2
      obtain ⟨x, m, rfl⟩ := List.exists_cons_of_length_pos hk2.1
      obtain ⟨q1, q2, q3⟩ := hhead x m rfl
      exact part_once (.inr (.inr ⟨k8, rfl, rfl⟩)) q1 q3 h (hpre x q2) (by omega)
    by_cases k9 : kind = 9
    · rw [if_neg (by omega), if_pos k9, decide_eq_true_eq] at hk2
      obtain ⟨x, m, rfl⟩ := List.exists_cons_of_length_pos hk2.1
      obtain ⟨q1, q2, q3⟩ := hhead x m rfl
      subst k9
      exact part_rep q1 (by omega) (by omega) q3 h (hpre x q2) (by omega)
    exact part_leaf k4 k5 k6 k7 k8 k9 h ⟨hp.f, hp.s, by have := hp.n; omega⟩
theorem parts_all : ∀ (l : List Nd), okNs l = true → hNs l ≤ 1000 → ∀ x ∈ l, ∀ (t : Nat) (o : Ob) (nx : Nat) (b : BS), BAt o nx t b → Pre (hN x) b → ∃ v H', RPartB [bp t, nodeV x] ⟨o, nx⟩ v H'
  | [], _, _, x, hx => by cases hx
  | y :: l, hk, hh, x, hx => by
    rw [okNs, Bool.and_eq_true] at hk
    rw [hNs] at hh
    rcases List.mem_cons.1 hx with e | hx
    · have := part_all y hk.1 (by omega)
      rw [e]; exact this
    · exact parts_all l hk.2 (by omega) x hx
end
end Go.Proofs.Ytfmijoglolecgaa.A
/- closing: the rows of free steps. -/
namespace Go.Proofs.Ytfmijoglolecgaa.A
open Go
set_option maxRecDepth 20000
abbrev nfaV (N S F : Int) (ss : List (Int × Int × Int)) (fs : List (Int × Int)) : AV := .agg [.int .i64 N, .int .i64 S, .int .i64 F, .sl ss.length (cS ss), .sl fs.length (cP fs)]
/-- Where free steps lead, state by state. -/
def rowAdd (rows : List (List Int)) (f : Int × Int) : List (List Int) := rows.set f.1.toNat (rows.getD f.1.toNat [] ++ [f.2])
def rowsOf (N : Nat) (fs : List (Int × Int)) : List (List Int) := fs.foldl rowAdd (List.replicate N [])
theorem rowsOf_snoc (N fs f) : rowsOf N (fs ++ [f]) = rowAdd (rowsOf N fs) f := by simp [rowsOf]
theorem rowsOf_length (N fs) : (rowsOf N fs).length = N := by
  have : ∀ (l : List (Int × Int)) (rows : List (List Int)), (l.foldl rowAdd rows).length = rows.length := fun l => by
    induction l with
    | nil => intro; rfl
    | cons f l ih => intro rows; rw [List.foldl_cons, ih]; simp [rowAdd]
  rw [rowsOf, this]; simp
theorem rowsOf_le (N fs j) : ((rowsOf N fs).getD j []).length ≤ fs.length := by
  have : ∀ (l : List (Int × Int)) (rows : List (List Int)) (n : Nat), (∀ j, (rows.getD j []).length ≤ n) → ∀ j, ((l.foldl rowAdd rows).getD j []).length ≤ n + l.length := fun l => by
    induction l with
    | nil => intro rows n h j; simpa using h j
    | cons f l ih =>
      intro rows n h j
      have := ih (rowAdd rows f) (n + 1) (fun j => by
        unfold rowAdd
        by_cases hf : f.1.toNat < rows.length
        · rw [getD_set _ _ _ _ _ hf]
          split
          · have := h f.1.toNat; rw [List.length_append, List.length_singleton]; omega
          · have := h j; omega
        · rw [List.set_eq_of_length_le (by omega)]; have := h j; omega) j
      simp only [List.foldl_cons, List.length_cons]; omega
  have := this fs (List.replicate N []) 0 (fun j => by simp [List.getD, List.getElem?_replicate]; split <;> simp) j
  simpa [rowsOf] using this
def nz38 : Nat → Option (List (Nat × Nat))
  | 1 => some [(1, 4), (1, 6), (3, 6), (4, 6)]
  | 5 => some [(1, 12), (3, 12), (5, 12), (7, 12), (9, 12), (1, 13), (3, 13)]
  | _ => none
theorem closing_wp (md X cr k) (N : Nat) (S F : Int) (hN : N ≤ 1000) (ss fs) (hfs : fs.length ≤ 100000) (hk : fs.length < k) (hin : ∀ p ∈ fs, 0 ≤ p.1 ∧ p.1 < (N : Int)) :
    WP (EX md X) cr k nz38 (Try.f18.body.getD .skip) (begin_ [nfaV N S F ss fs]) (fun _ => none) 0 (fun u a o nx => u = .ret ∧ ∃ cs, NI 32 o nx cs (rowsOf N fs) ∧ a 2 = .ptr (0, 2) (0, 2) 0 ∧
      o (0, 2) = some (.row ⟨57, 1, (0, 2), false, true, [.int .i64 N, .ref (1, 10) (1, 10) 0 N]⟩) ∧ o (1, 10) = some (.row ⟨23, 1, (1, 10), false, true, cs⟩)) := by
  simp only [Try.f18, Option.getD_some]
  simp only [go_sem, ↓IntWalk.iteOmega, IntWalk.toNatUp, Nat.reduceEqDiff, Nat.reduceAdd, Nat.reduceMul, Nat.reduceSub, Nat.reduceLT, Nat.reduceLeDiff, Int.reduceToNat, Int.reduceLT, Int.reduceLE, Int.reduceEq, Int.reduceAdd, Int.reduceSub, Int.reduceMul, Int.toNat_natCast, reduceCtorEq, decide_true, decide_false, IntWalk.i64_in, IntWalk.u64_in, IntWalk.u8_in, nz38, begin_]
  refine WP_loop (fun m a o nx => ∃ i cs, i ≤ fs.length ∧ m = fs.length - i ∧ NI 32 o nx cs (rowsOf N (fs.take i)) ∧ 2 ≤ nx ∧ a 2 = .ptr (0, 2) (0, 2) 0 ∧ a 3 = .ptr (1, 3) (1, 3) 0 ∧ a 13 = .sl fs.length (cP fs) ∧ a 14 = .int .i64 fs.length ∧ a 15 = .int .i64 i ∧
      (∃ x, o (0, 2) = some (.row ⟨57, 1, (0, 2), false, true, x⟩) ∧ x.length = 2) ∧ o (1, 3) = some (.row ⟨57, 1, (1, 3), false, true, [.int .i64 N, .ref (1, 10) (1, 10) 0 N]⟩) ∧ o (1, 10) = some (.row ⟨23, 1, (1, 10), false, true, cs⟩)) fs.length hk ⟨0, List.replicate N .nil, ?_⟩ ?_
  · simp only [go_sem, ↓IntWalk.iteOmega, IntWalk.toNatUp, Nat.reduceEqDiff, Nat.reduceAdd, Nat.reduceMul, Nat.reduceSub, Nat.reduceLT, Nat.reduceLeDiff, Int.reduceToNat, Int.reduceLT, Int.reduceLE, Int.reduceEq, Int.reduceAdd, Int.reduceSub, Int.reduceMul, Int.toNat_natCast, reduceCtorEq, decide_true, decide_false, IntWalk.i64_in, IntWalk.u64_in, IntWalk.u8_in, rep_one, List.take_zero, Nat.sub_zero]
    exact ⟨by omega, NI.start _ _ _ N, ⟨_, rfl, rfl⟩⟩
  · rintro m a o nx ⟨i, cs, hi, rfl, hNI, hnx, h2, h3, h13, h14, h15, ⟨x, hx, hxl⟩, ho3, ho10⟩
    by_cases hlt : i < fs.length
    · obtain ⟨hf0, hfN⟩ := hin (fs.getD i (0, 0)) (by simp [List.getD, hlt])
      have hat := cP_at hlt
      have htake := take_succ_getD hlt (0, 0)
      generalize fs.getD i (0, 0) = f at hf0 hfN hat htake
      obtain ⟨f, t⟩ := f
      simp only at hf0 hfN hat htake
      obtain ⟨j, rfl⟩ := Int.eq_ofNat_of_zero_le hf0
      have hrl := rowsOf_length N (fs.take i)
      have hcl : cs.length = N := by rw [hNI.1, hrl]
      have hjN : j < cs.length := by omega
      have hH := hNI.2.1 j (by omega)
      have hget := cs_get (s := 1) hjN
      generalize hv : cs.getD j .nil = v at hH hget
      have hspl : ∀ v, splice cs j [v] = cs.set j v := fun v => splice_eq cs j v hjN
      have hnext : rowsOf N (fs.take (i + 1)) = (rowsOf N (fs.take i)).set j ((rowsOf N (fs.take i)).getD j [] ++ [t]) := by rw [htake, rowsOf_snoc]; rfl
      have hjr : j < (rowsOf N (fs.take i)).length := by omega
      rcases hH with ⟨rfl, e2, e3⟩ | ⟨i1, g, rfl, hi1, hrow, hlen⟩
      · simp (disch := omega) only [go_sem, ↓IntWalk.iteOmega, IntWalk.toNatUp, Nat.reduceEqDiff, Nat.reduceAdd, Nat.reduceMul, Nat.reduceSub, Nat.reduceLT, Nat.reduceLeDiff, Int.reduceToNat, Int.reduceLT, Int.reduceLE, Int.reduceEq, Int.reduceAdd, Int.reduceSub, Int.reduceMul, Int.toNat_natCast, reduceCtorEq, decide_true, decide_false, IntWalk.i64_in, IntWalk.u64_in, IntWalk.u8_in, nz38, h2, h3, h13, h14, h15, ho3, ho10, hat, hget, hspl, IntWalk.i64_in]
        have e4 : (rowsOf N (fs.take i)).getD j [] = [] := List.length_eq_zero_iff.1 e2
        refine ⟨_, ?_, i + 1, _, by omega, rfl, ?_, by simp, ⟨x, hx, hxl⟩, rfl⟩
        · omega
        · rw [hnext, e4]
          exact NI.set (l := [t]) hNI hjr rfl (by omega) (by omega) (.inl ⟨hv, by omega⟩) (fun i' _ h => by simp [upd_app, h]) (by simp [upd_app, cI])
      · have hle := rowsOf_le N (fs.take i) j
        have hlt' : (fs.take i).length ≤ fs.length := by simp; omega
        generalize (rowsOf N (fs.take i)).getD j [] = r at *
        simp (disch := omega) only [go_sem, ↓IntWalk.iteOmega, IntWalk.toNatUp, Nat.reduceEqDiff, Nat.reduceAdd, Nat.reduceMul, Nat.reduceSub, Nat.reduceLT, Nat.reduceLeDiff, Int.reduceToNat, Int.reduceLT, Int.reduceLE, Int.reduceEq, Int.reduceAdd, Int.reduceSub, Int.reduceMul, Int.toNat_natCast, reduceCtorEq, decide_true, decide_false, IntWalk.i64_in, IntWalk.u64_in, IntWalk.u8_in, nz38, h2, h3, h13, h14, h15, ho3, ho10, hat, hget, hrow, hspl, IntWalk.i64_in]
        refine ⟨_, ?_, i + 1, _, by omega, rfl, ?_, by simp, ⟨x, hx, hxl⟩, rfl⟩
        · omega
        · rw [hnext]
          exact NI.set (l := r ++ [t]) hNI hjr (by simp) (by omega) (by omega) (.inr ⟨_, _, hv⟩) (fun i' _ h => by simp [upd_app, h]) (by simp [upd_app, cI])
    · have e : i = fs.length := by omega
      subst e
      rw [List.take_length] at hNI
      match x, hxl with
      | [x1, x2], _ =>
        simp only [go_sem, ↓IntWalk.iteOmega, IntWalk.toNatUp, Nat.reduceEqDiff, Nat.reduceAdd, Nat.reduceMul, Nat.reduceSub, Nat.reduceLT, Nat.reduceLeDiff, Int.reduceToNat, Int.reduceLT, Int.reduceLE, Int.reduceEq, Int.reduceAdd, Int.reduceSub, Int.reduceMul, Int.toNat_natCast, reduceCtorEq, decide_true, decide_false, IntWalk.i64_in, IntWalk.u64_in, IntWalk.u8_in, nz38, h2, h3, h13, h14, h15, ho3, ho10, hx]
        exact ⟨cs, hNI.keep (fun _ _ => by simp [upd_app]) (by omega), rfl⟩
abbrev closerV (N : Nat) (rows : List (List Int)) : AV := .agg [.int .i64 N, .sl N (rows.map slI)]
theorem look38 (X) : lookedAt (EX md0 X) nz38 1 Try.f18 = true := by kernel_rfl
theorem closing_ok (N : Nat) (S F : Int) (hN : N ≤ 1000) (ss fs) (hfs : fs.length ≤ 100000) (hin : ∀ p ∈ fs, 0 ≤ p.1 ∧ p.1 < (N : Int)) : Ok Try.prog 18 [nfaV N S F ss fs] (closerV N (rowsOf N fs)) := by
  refine ok_of_WP (E := EX md0 (fun _ _ => none)) (cr := noR) (tab_nil _) (noR_ok _) mixed (k := fs.length + 1) Try.func18 (look38 _) rfl (WP_mono (closing_wp _ _ _ _ N S F hN ss fs hfs (by omega) hin) ?_)
  rintro u a o nx ⟨rfl, cs, hNI, h2, ho2, ho10⟩
  have hv := hNI.view 1009
  have hl : cs.length = N := by rw [hNI.1, rowsOf_length]
  refine ⟨.inr rfl, ?_⟩
  simp only [Try.f18, go_sem, ↓IntWalk.iteOmega, IntWalk.toNatUp, Nat.reduceEqDiff, Nat.reduceAdd, Nat.reduceMul, Nat.reduceSub, Nat.reduceLT, Nat.reduceLeDiff, Int.reduceToNat, Int.reduceLT, Int.reduceLE, Int.reduceEq, Int.reduceAdd, Int.reduceSub, Int.reduceMul, Int.toNat_natCast, reduceCtorEq, decide_true, decide_false, IntWalk.i64_in, IntWalk.u64_in, IntWalk.u8_in, h2, ho2, ho10, hl, hv, take_len hl]
end Go.Proofs.Ytfmijoglolecgaa.A
/- close: the states to which free steps lead. -/
namespace Go.Proofs.Ytfmijoglolecgaa.A
open Go
set_option maxRecDepth 20000
/-- Reached from states by free steps. -/
inductive Rch (N : Nat) (rows : List (List Int)) (l : List Int) : Nat → Prop
  | base (s : Nat) (h : (s : Int) ∈ l) (hs : s < N) : Rch N rows l s
  | step (s t : Nat) (h : Rch N rows l s) (hm : (t : Int) ∈ rows.getD s []) (ht : t < N) : Rch N rows l t
theorem Rch.lt {N rows l s} (h : Rch N rows l s) : s < N := by cases h <;> assumption
open Classical in
noncomputable def closeB (N : Nat) (rows : List (List Int)) (l : List Int) : List Bool := (List.range N).map fun s => decide (Rch N rows l s)
/-- Where it is true, rising. -/
def idxs (b : List Bool) : List Int := ((List.range b.length).map fun s => if b.getD s false then [(s : Int)] else []).flatten
theorem closeB_length (N rows l) : (closeB N rows l).length = N := by simp [closeB]
theorem closeB_get (N rows l s) : (closeB N rows l).getD s false = true ↔ Rch N rows l s := by
  classical
  simp only [closeB, List.getD, List.getElem?_map, List.getElem?_range']
  by_cases h : s < N
  · simp [h]
  · simp only [List.getElem?_eq_none (show (List.range N).length ≤ s by simp; omega)]
    simp
    exact fun hc => h hc.lt
theorem closeB_unique {N rows l} {b : List Bool} (hl : b.length = N) (h : ∀ s, b.getD s false = true ↔ Rch N rows l s) : b = closeB N rows l := by
  refine List.ext_getElem (by rw [hl, closeB_length]) fun s h1 h2 => ?_
  have e1 : b.getD s false = b[s] := by simp [List.getD, h1]
  have e2 : (closeB N rows l).getD s false = (closeB N rows l)[s] := by simp [List.getD, h2]
  rw [Bool.eq_iff_iff, ← e1, ← e2, h, closeB_get]
/-- What is still to be looked at. -/
def todo (rows : List (List Int)) (b : List Bool) : Nat := ((List.range b.length).map fun s => if b.getD s false then 0 else (rows.getD s []).length).sum
theorem sum_map_le {α : Type} (l : List α) (f g : α → Nat) (h : ∀ x ∈ l, f x ≤ g x) : (l.map f).sum ≤ (l.map g).sum := by
  induction l with
  | nil => simp
  | cons x l ih =>
    have := h x (List.mem_cons_self ..)
    have := ih fun y hy => h y (List.mem_cons_of_mem _ hy)
    simp; omega
theorem sum_map_one (n s : Nat) (hs : s < n) (f g : Nat → Nat) (h : ∀ x, x ≠ s → f x = g x) : ((List.range n).map f).sum + g s = ((List.range n).map g).sum + f s := by
  induction n with
  | zero => omega
  | succ n ih =>
    simp only [List.range_succ, List.map_append, List.sum_append, List.map_cons, List.map_nil, List.sum_cons, List.sum_nil]
    by_cases e : s = n
    · subst e
      have : (List.range s).map f = (List.range s).map g := List.map_congr_left fun x hx => h x (by have := List.mem_range.1 hx; omega)
      rw [this]; omega
    · have := ih (by omega)
      have := h n (fun hc => e hc.symm)
      omega
theorem todo_set {rows : List (List Int)} {b : List Bool} {s : Nat} (hs : s < b.length) (hb : b.getD s false = false) : todo rows (b.set s true) + (rows.getD s []).length = todo rows b := by
  unfold todo
  rw [List.length_set]
  have := sum_map_one b.length s hs (fun x => if (b.set s true).getD x false then 0 else (rows.getD x []).length) (fun x => if b.getD x false then 0 else (rows.getD x []).length) (fun x hx => by
    rw [getD_set _ _ _ _ _ hs, if_neg (show ¬ s = x from fun hc => hx hc.symm)])
  rw [hb, getD_set _ _ _ _ _ hs, if_pos rfl] at this
  rw [if_neg (by simp), if_pos rfl] at this
  omega
/-- Between the rounds: what is marked is reached; what is reached is marked or waits. -/
structure Mid (N : Nat) (rows : List (List Int)) (l : List Int) (b : List Bool) (st : List Int) : Prop where
  len : b.length = N
  sound : ∀ s, b.getD s false = true → Rch N rows l s
  wait : ∀ s : Nat, (s : Int) ∈ st → s < N → Rch N rows l s
  base : ∀ s : Nat, (s : Int) ∈ l → s < N → b.getD s false = true ∨ (s : Int) ∈ st
  next : ∀ s t : Nat, b.getD s false = true → (t : Int) ∈ rows.getD s [] → t < N → b.getD t false = true ∨ (t : Int) ∈ st
theorem Mid.start (N rows l) : Mid N rows l (List.replicate N false) l := by
  have h0 : ∀ s, (List.replicate N false).getD s false = false := fun s => by simp only [List.getD, List.getElem?_replicate]; split <;> rfl
  exact ⟨by simp, fun s h => (by rw [h0] at h; cases h), fun s h hs => .base s h hs, fun s h _ => .inr h, fun s t h => (by rw [h0] at h; cases h)⟩
theorem Mid.done {N rows l b} (h : Mid N rows l b []) : b = closeB N rows l := by
  refine closeB_unique h.len fun s => ⟨h.sound s, fun hr => ?_⟩
  induction hr with
  | base s hm hs => rcases h.base s hm hs with h | h; · exact h
                    · cases h
  | step s t hr hm ht ih => rcases h.next s t ih hm ht with h | h; · exact h
                            · cases h
theorem Mid.skip {N rows l b st} {x : Int} (h : Mid N rows l b (st ++ [x])) (hx : ∀ s : Nat, x = s → s < N → b.getD s false = true) : Mid N rows l b st := by
  refine ⟨h.len, h.sound, fun s hm hs => h.wait s (by simp [hm]) hs, fun s hm hs => ?_, fun s t hb hm ht => ?_⟩
  · rcases h.base s hm hs with h1 | h1
    · exact .inl h1
    · rcases List.mem_append.1 h1 with h1 | h1
      · exact .inr h1
      · exact .inl (hx s (List.mem_singleton.1 h1).symm hs)
  · rcases h.next s t hb hm ht with h1 | h1
    · exact .inl h1
    · rcases List.mem_append.1 h1 with h1 | h1
      · exact .inr h1
      · exact .inl (hx t (List.mem_singleton.1 h1).symm ht)
theorem Mid.mark {N rows l b st} {s : Nat} (h : Mid N rows l b (st ++ [(s : Int)])) (hs : s < N) : Mid N rows l (b.set s true) (st ++ rows.getD s []) := by
  have hsl : s < b.length := by rw [h.len]; exact hs
  have hr : Rch N rows l s := h.wait s (by simp) hs
  have hg : ∀ t, (b.set s true).getD t false = true ↔ t = s ∨ b.getD t false = true := fun t => by
    rw [getD_set _ _ _ _ _ hsl]
    by_cases e : s = t
    · simp [e]
    · rw [if_neg e]; simp [show ¬ t = s from fun hc => e hc.symm]
  refine ⟨by simpa using h.len, fun t ht => ?_, fun t hm ht => ?_, fun t hm ht => ?_, fun t u hb hm hu => ?_⟩
  · rcases (hg t).1 ht with rfl | ht
    · exact hr
    · exact h.sound t ht
  · rcases List.mem_append.1 hm with hm | hm
    · exact h.wait t (by simp [hm]) ht
    · exact .step s t hr hm ht
  · rw [hg]
    rcases h.base t hm ht with h1 | h1
    · exact .inl (.inr h1)
    · rcases List.mem_append.1 h1 with h1 | h1
      · exact .inr (List.mem_append_left _ h1)
      · exact .inl (.inl (by have := List.mem_singleton.1 h1; omega))
  · rw [hg]
    rcases (hg t).1 hb with rfl | hb
    · exact .inr (List.mem_append_right _ hm)
    · rcases h.next t u hb hm hu with h1 | h1
      · exact .inl (.inr h1)
      · rcases List.mem_append.1 h1 with h1 | h1
        · exact .inr (List.mem_append_left _ h1)
        · exact .inl (.inl (by have := List.mem_singleton.1 h1; omega))
theorem idxs_snoc {b : List Bool} {i : Nat} (h : i < b.length) : idxs (b.take (i + 1)) = idxs (b.take i) ++ (if b.getD i false then [(i : Int)] else []) := by
  have e : ∀ n, n ≤ b.length → idxs (b.take n) = ((List.range n).map fun s => if b.getD s false then [(s : Int)] else []).flatten := fun n hn => by
    unfold idxs
    rw [List.length_take, Nat.min_eq_left hn]
    congr 1
    refine List.map_congr_left fun s hs => ?_
    have : s < n := List.mem_range.1 hs
    have : (b.take n).getD s false = b.getD s false := by simp [List.getD, List.getElem?_take, this]
    rw [this]
  rw [e _ (by omega), e _ (by omega), List.range_succ, List.map_append, List.flatten_append]
  congr 1
  rw [List.map_singleton]
  exact List.append_nil _
theorem todo_start {rows : List (List Int)} {N : Nat} (h : rows.length = N) : todo rows (List.replicate N false) = (rows.map List.length).sum := by
  subst h
  unfold todo
  congr 1
  refine List.ext_getElem (by simp) fun s h1 h2 => ?_
  have hs : s < rows.length := by simpa using h2
  simp [List.getD, List.getElem?_replicate, hs]
theorem idxs_le (b : List Bool) : (idxs b).length ≤ b.length := by
  unfold idxs
  rw [List.length_flatten, List.map_map]
  have h := sum_map_le (List.range b.length) (List.length ∘ fun s => if b.getD s false then [(s : Int)] else []) (fun _ => 1) (fun s _ => by
    show (if b.getD s false then [(s : Int)] else []).length ≤ 1
    split
    · exact Nat.le_refl 1
    · exact Nat.zero_le 1)
  have h2 : ∀ n : Nat, ((List.range n).map fun _ => 1).sum = n := fun n => by
    induction n with
    | zero => rfl
    | succ n ih => rw [List.range_succ, List.map_append, List.sum_append, ih]; rfl
  rw [h2] at h
  exact h
theorem row_le (rows : List (List Int)) (s : Nat) : (rows.getD s []).length ≤ (rows.map List.length).sum := by
  induction rows generalizing s with
  | nil => simp [List.getD]
  | cons r rows ih =>
    cases s with
    | zero => simp [List.getD]
    | succ s => have := ih s; simp only [List.getD_cons_succ, List.map_cons, List.sum_cons]; omega
theorem slRows_get {rows : List (List Int)} {s : Nat} (h : s < rows.length) : take1 false 1 ((rows.map slI).drop s) = some (slI (rows.getD s [])) := by
  rw [cs_get (by simpa using h)]; simp [List.getD, h]
theorem close_wp (md X cr k) (N : Nat) (hN : N ≤ 100000) (rows : List (List Int)) (hr : rows.length = N) (l : List Int) (hsz : l.length + (rows.map List.length).sum ≤ 10000000) (hk : l.length + (rows.map List.length).sum + N < k) :
    WP (EX md X) cr k (fun _ => none) (Try.f19.body.getD .skip) (begin_ [closerV N rows, slI l]) (fun _ => none) 0 (fun u a o nx => u = .ret ∧ A.view o vDepth (a 4) = slI (idxs (closeB N rows l))) := by
  simp only [Try.f19, Option.getD_some]
  have hz : (cI (List.replicate l.length 0)).drop l.length = [] := by simp [cI]
  simp (disch := omega) only [go_sem, ↓IntWalk.iteOmega, IntWalk.toNatUp, Nat.reduceEqDiff, Nat.reduceAdd, Nat.reduceMul, Nat.reduceSub, Nat.reduceLT, Nat.reduceLeDiff, Int.reduceToNat, Int.reduceLT, Int.reduceLE, Int.reduceEq, Int.reduceAdd, Int.reduceSub, Int.reduceMul, Int.toNat_natCast, reduceCtorEq, decide_true, decide_false, IntWalk.i64_in, IntWalk.u64_in, IntWalk.u8_in, begin_, rep_bool, rep_int, hz]
  refine WP_loop (fun m a o nx => ∃ b full n g, Mid N rows l b (full.take n) ∧ n ≤ full.length ∧ m = n + todo rows b ∧ 4 ≤ nx ∧ m ≤ l.length + (rows.map List.length).sum ∧ a 2 = .ptr (0, 2) (0, 2) 0 ∧ a 5 = .ref (1, 13) (1, 13) 0 N ∧ a 6 = .ref (2, 16) g 0 n ∧
      o (0, 2) = some (.row ⟨57, 1, (0, 2), false, true, [.int .i64 N, .sl N (rows.map slI)]⟩) ∧ o (1, 13) = some (.row ⟨4, 1, (1, 13), false, true, cB b⟩) ∧ o (2, 16) = some (.row ⟨3, 1, g, false, true, cI full⟩)) (l.length + (rows.map List.length).sum) ?_ ?_ ?_
  · omega
  · refine ⟨List.replicate N false, l, l.length, (2, 16), by rw [List.take_length]; exact Mid.start N rows l, Nat.le_refl _, by rw [todo_start hr], by omega, Nat.le_refl _, ?_⟩
    simp only [go_sem, ↓IntWalk.iteOmega, IntWalk.toNatUp, Nat.reduceEqDiff, Nat.reduceAdd, Nat.reduceMul, Nat.reduceSub, Nat.reduceLT, Nat.reduceLeDiff, Int.reduceToNat, Int.reduceLT, Int.reduceLE, Int.reduceEq, Int.reduceAdd, Int.reduceSub, Int.reduceMul, Int.toNat_natCast, reduceCtorEq, decide_true, decide_false, IntWalk.i64_in, IntWalk.u64_in, IntWalk.u8_in, begin_]
  · rintro m a o nx ⟨b, full, n, g, hM, hn, rfl, hnx, hm, h2, h5, h6, ho2, ho13, ho16⟩
    have hbl := hM.len
    by_cases h0 : n = 0
    · subst h0
      rw [List.take_zero] at hM
      have hdone := hM.done
      simp (disch := omega) only [go_sem, ↓IntWalk.iteOmega, IntWalk.toNatUp, Nat.reduceEqDiff, Nat.reduceAdd, Nat.reduceMul, Nat.reduceSub, Nat.reduceLT, Nat.reduceLeDiff, Int.reduceToNat, Int.reduceLT, Int.reduceLE, Int.reduceEq, Int.reduceAdd, Int.reduceSub, Int.reduceMul, Int.toNat_natCast, reduceCtorEq, decide_true, decide_false, IntWalk.i64_in, IntWalk.u64_in, IntWalk.u8_in, h2, h5, h6, ho2, ho13, ho16]
      refine WP_loop (fun m a o nx' => ∃ i g, i ≤ N ∧ m = N - i ∧ nx + 2 ≤ nx' ∧ a 8 = .ref (nx + 1, 61) g 0 (idxs (b.take i)).length ∧ a 62 = .ref (1, 13) (1, 13) 0 N ∧ a 63 = .int .i64 N ∧ a 64 = .int .i64 i ∧
        o (1, 13) = some (.row ⟨4, 1, (1, 13), false, true, cB b⟩) ∧ o (nx + 1, 61) = some (.row ⟨3, 1, g, false, true, cI (idxs (b.take i))⟩)) N ?_ ?_ ?_
      · omega
      · refine ⟨0, (nx + 1, 61), by omega, by omega, by omega, ?_⟩
        have h0 : idxs (b.take 0) = [] := rfl
        simp only [go_sem, ↓IntWalk.iteOmega, IntWalk.toNatUp, Nat.reduceEqDiff, Nat.reduceAdd, Nat.reduceMul, Nat.reduceSub, Nat.reduceLT, Nat.reduceLeDiff, Int.reduceToNat, Int.reduceLT, Int.reduceLE, Int.reduceEq, Int.reduceAdd, Int.reduceSub, Int.reduceMul, Int.toNat_natCast, reduceCtorEq, decide_true, decide_false, IntWalk.i64_in, IntWalk.u64_in, IntWalk.u8_in, ho13, h0]
        exact ⟨rfl, rfl⟩
      · rintro m a o nx' ⟨i, g, hi, rfl, hnx', h8, h62, h63, h64, ho13, ho61⟩
        by_cases hlt : i < N
        · have hib : i < b.length := by omega
          have hgb := cB_get (s := 1) hib
          have hsn := idxs_snoc hib
          have hle := idxs_le (b.take i)
          rw [List.length_take] at hle
          cases hbi : b.getD i false with
          | true =>
            rw [hbi] at hgb hsn
            rw [if_pos rfl] at hsn
            simp (disch := omega) only [go_sem, ↓IntWalk.iteOmega, IntWalk.toNatUp, Nat.reduceEqDiff, Nat.reduceAdd, Nat.reduceMul, Nat.reduceSub, Nat.reduceLT, Nat.reduceLeDiff, Int.reduceToNat, Int.reduceLT, Int.reduceLE, Int.reduceEq, Int.reduceAdd, Int.reduceSub, Int.reduceMul, Int.toNat_natCast, reduceCtorEq, decide_true, decide_false, IntWalk.i64_in, IntWalk.u64_in, IntWalk.u8_in, h8, h62, h63, h64, ho13, ho61, hgb, IntWalk.i64_in]
            exact ⟨_, by omega, i + 1, _, by omega, rfl, by omega, by rw [hsn, List.length_append]; rfl, by simp, by rw [hsn, cI_app]; rfl⟩
          | false =>
            rw [hbi] at hgb hsn
            rw [if_neg (by simp), List.append_nil] at hsn
            simp (disch := omega) only [go_sem, ↓IntWalk.iteOmega, IntWalk.toNatUp, Nat.reduceEqDiff, Nat.reduceAdd, Nat.reduceMul, Nat.reduceSub, Nat.reduceLT, Nat.reduceLeDiff, Int.reduceToNat, Int.reduceLT, Int.reduceLE, Int.reduceEq, Int.reduceAdd, Int.reduceSub, Int.reduceMul, Int.toNat_natCast, reduceCtorEq, decide_true, decide_false, IntWalk.i64_in, IntWalk.u64_in, IntWalk.u8_in, h8, h62, h63, h64, ho13, ho61, hgb, IntWalk.i64_in]
            exact ⟨_, by omega, i + 1, g, by omega, rfl, by omega, by rw [hsn], by simp, by rw [hsn]⟩
        · have e : i = N := by omega
          subst e
          rw [List.take_of_length_le (by omega)] at h8 ho61
          have hlb := idxs_le b
          rw [← hdone]
          by_cases hz : (idxs b).length = 0
          · simp (disch := omega) only [go_sem, ↓IntWalk.iteOmega, IntWalk.toNatUp, Nat.reduceEqDiff, Nat.reduceAdd, Nat.reduceMul, Nat.reduceSub, Nat.reduceLT, Nat.reduceLeDiff, Int.reduceToNat, Int.reduceLT, Int.reduceLE, Int.reduceEq, Int.reduceAdd, Int.reduceSub, Int.reduceMul, Int.toNat_natCast, reduceCtorEq, decide_true, decide_false, IntWalk.i64_in, IntWalk.u64_in, IntWalk.u8_in, h8, h62, h63, h64, ho13, ho61, hz]
            rw [List.length_eq_zero_iff.1 hz]; rfl
          · simp (disch := omega) only [go_sem, ↓IntWalk.iteOmega, IntWalk.toNatUp, Nat.reduceEqDiff, Nat.reduceAdd, Nat.reduceMul, Nat.reduceSub, Nat.reduceLT, Nat.reduceLeDiff, Int.reduceToNat, Int.reduceLT, Int.reduceLE, Int.reduceEq, Int.reduceAdd, Int.reduceSub, Int.reduceMul, Int.toNat_natCast, reduceCtorEq, decide_true, decide_false, IntWalk.i64_in, IntWalk.u64_in, IntWalk.u8_in, h8, h62, h63, h64, ho13, ho61, hz]
    · have hg := cI_get (s := 1) (show n - 1 < full.length by omega)
      have htk : full.take n = full.take (n - 1) ++ [full.getD (n - 1) 0] := by
        have := take_succ_getD (show n - 1 < full.length by omega) 0
        rwa [show n - 1 + 1 = n by omega] at this
      rw [htk] at hM
      generalize full.getD (n - 1) 0 = x at hg htk hM
      have htk1 : (full.take (n - 1)).length = n - 1 := by rw [List.length_take]; omega
      by_cases hx0 : 0 ≤ x
      · obtain ⟨s, rfl⟩ := Int.eq_ofNat_of_zero_le hx0
        by_cases hs : s < N
        · have hgb := cB_get (s := 1) (show s < b.length by omega)
          have hrow := slRows_get (rows := rows) (show s < rows.length by omega)
          have hcs := cB_set b s true (by omega)
          cases hbs : b.getD s false with
          | true =>
            rw [hbs] at hgb
            simp (disch := omega) only [go_sem, ↓IntWalk.iteOmega, IntWalk.toNatUp, Nat.reduceEqDiff, Nat.reduceAdd, Nat.reduceMul, Nat.reduceSub, Nat.reduceLT, Nat.reduceLeDiff, Int.reduceToNat, Int.reduceLT, Int.reduceLE, Int.reduceEq, Int.reduceAdd, Int.reduceSub, Int.reduceMul, Int.toNat_natCast, reduceCtorEq, decide_true, decide_false, IntWalk.i64_in, IntWalk.u64_in, IntWalk.u8_in, h2, h5, h6, ho2, ho13, ho16, hg, hgb, IntWalk.i64_in]
            refine ⟨_, ?_, b, full, n - 1, g, hM.skip (fun t ht _ => ?_), by omega, rfl, by omega, rfl, rfl, rfl⟩
            · omega
            · have : s = t := by omega
              rw [← this, hbs]
          | false =>
            rw [hbs] at hgb
            have htd := todo_set (rows := rows) (show s < b.length by omega) hbs
            have hrl : (rows.getD s []).length ≤ (rows.map List.length).sum := row_le rows s
            simp (disch := omega) only [go_sem, ↓IntWalk.iteOmega, IntWalk.toNatUp, Nat.reduceEqDiff, Nat.reduceAdd, Nat.reduceMul, Nat.reduceSub, Nat.reduceLT, Nat.reduceLeDiff, Int.reduceToNat, Int.reduceLT, Int.reduceLE, Int.reduceEq, Int.reduceAdd, Int.reduceSub, Int.reduceMul, Int.toNat_natCast, reduceCtorEq, decide_true, decide_false, IntWalk.i64_in, IntWalk.u64_in, IntWalk.u8_in, h2, h5, h6, ho2, ho13, ho16, hg, hgb, hrow, hcs, cI_take, IntWalk.i64_in]
            refine ⟨_, ?_, b.set s true, full.take (n - 1) ++ rows.getD s [], n - 1 + (rows.getD s []).length, _, ?_, ?_, rfl, ?_, rfl, rfl, by rw [cI_app]⟩
            · omega
            · rw [List.take_of_length_le (by rw [List.length_append]; omega)]
              exact hM.mark hs
            · rw [List.length_append]; omega
            · omega
        · simp (disch := omega) only [go_sem, ↓IntWalk.iteOmega, IntWalk.toNatUp, Nat.reduceEqDiff, Nat.reduceAdd, Nat.reduceMul, Nat.reduceSub, Nat.reduceLT, Nat.reduceLeDiff, Int.reduceToNat, Int.reduceLT, Int.reduceLE, Int.reduceEq, Int.reduceAdd, Int.reduceSub, Int.reduceMul, Int.toNat_natCast, reduceCtorEq, decide_true, decide_false, IntWalk.i64_in, IntWalk.u64_in, IntWalk.u8_in, h2, h5, h6, ho2, ho13, ho16, hg, IntWalk.i64_in]
          exact ⟨_, by omega, b, full, n - 1, g, hM.skip (fun t ht htN => by omega), by omega, rfl, by omega, rfl, rfl, rfl⟩
      · simp (disch := omega) only [go_sem, ↓IntWalk.iteOmega, IntWalk.toNatUp, Nat.reduceEqDiff, Nat.reduceAdd, Nat.reduceMul, Nat.reduceSub, Nat.reduceLT, Nat.reduceLeDiff, Int.reduceToNat, Int.reduceLT, Int.reduceLE, Int.reduceEq, Int.reduceAdd, Int.reduceSub, Int.reduceMul, Int.toNat_natCast, reduceCtorEq, decide_true, decide_false, IntWalk.i64_in, IntWalk.u64_in, IntWalk.u8_in, h2, h5, h6, ho2, ho13, ho16, hg, IntWalk.i64_in]
        exact ⟨_, by omega, b, full, n - 1, g, hM.skip (fun t ht _ => by omega), by omega, rfl, by omega, rfl, rfl, rfl⟩
theorem look39 (X) : lookedAt (EX md0 X) (fun _ => none) 2 Try.f19 = true := by kernel_rfl
theorem close_ok (N : Nat) (hN : N ≤ 100000) (rows : List (List Int)) (hr : rows.length = N) (l : List Int) (hsz : l.length + (rows.map List.length).sum ≤ 10000000) : Ok Try.prog 19 [closerV N rows, slI l] (slI (idxs (closeB N rows l))) := by
  refine ok_of_WP (E := EX md0 (fun _ _ => none)) (cr := noR) (tab_nil _) (noR_ok _) mixed (k := l.length + (rows.map List.length).sum + N + 1) Try.func19 (look39 _) rfl (WP_mono (close_wp _ _ _ _ N hN rows hr l hsz (by omega)) ?_)
  rintro u a o nx ⟨rfl, h⟩
  exact ⟨.inr rfl, h⟩
end Go.Proofs.Ytfmijoglolecgaa.A
/- nfa.Close, nfa.Run: contracts. -/
namespace Go.Proofs.Ytfmijoglolecgaa.A
open Go
set_option maxRecDepth 20000
/-! ### relations -/
def R38 (args : List AV) (r : AV) : Prop := ∃ (N : Nat) (S F : Int) (ss : List (Int × Int × Int)) (fs : List (Int × Int)), N ≤ 1000 ∧ fs.length ≤ 100000 ∧ (∀ p ∈ fs, 0 ≤ p.1 ∧ p.1 < (N : Int)) ∧ args = [nfaV N S F ss fs] ∧ r = closerV N (rowsOf N fs)
def R39 (args : List AV) (r : AV) : Prop := ∃ (N : Nat) (rows : List (List Int)) (l : List Int), N ≤ 100000 ∧ rows.length = N ∧ l.length + (rows.map List.length).sum ≤ 10000000 ∧ args = [closerV N rows, slI l] ∧ r = slI (idxs (closeB N rows l))
theorem R38_fn : Fun1 R38 := by
  rintro args r r' ⟨N, S, F, ss, fs, _, _, _, rfl, rfl⟩ ⟨N', S', F', ss', fs', _, _, _, h, rfl⟩
  simp only [nfaV, List.cons.injEq, AV.agg.injEq, AV.int.injEq, AV.sl.injEq, true_and, and_true] at h
  obtain ⟨h1, _, _, _, _, h2⟩ := h
  have h1 : N = N' := by omega
  rw [h1, cP_inj h2]
theorem R39_fn : Fun1 R39 := by
  rintro args r r' ⟨N, rows, l, _, _, _, rfl, rfl⟩ ⟨N', rows', l', _, _, _, h, rfl⟩
  simp only [closerV, List.cons.injEq, AV.agg.injEq, AV.int.injEq, AV.sl.injEq, true_and, and_true] at h
  obtain ⟨⟨h1, _, h2⟩, _, h3⟩ := h
  have h1 : N = N' := by omega
  rw [h1, slIs_inj h2, cI_inj h3]
theorem R38_ok (args r) (h : R38 args r) : Ok Try.prog 18 args r := by
  obtain ⟨N, S, F, ss, fs, h1, h2, h3, rfl, rfl⟩ := h
  exact closing_ok N S F h1 ss fs h2 h3
theorem R39_ok (args r) (h : R39 args r) : Ok Try.prog 19 args r := by
  obtain ⟨N, rows, l, h1, h2, h3, rfl, rfl⟩ := h
  exact close_ok N h1 rows h2 l h3
theorem rows_sum {N : Nat} {fs : List (Int × Int)} (h : ∀ p ∈ fs, 0 ≤ p.1 ∧ p.1 < (N : Int)) : ((rowsOf N fs).map List.length).sum = fs.length := by
  have key : ∀ (l : List (Int × Int)) (rows : List (List Int)), rows.length = N → (∀ p ∈ l, 0 ≤ p.1 ∧ p.1 < (N : Int)) → ((l.foldl rowAdd rows).map List.length).sum = (rows.map List.length).sum + l.length := fun l => by
    induction l with
    | nil => intro rows _ _; simp
    | cons p l ih =>
      intro rows hl hp
      have hp0 := hp p (List.mem_cons_self ..)
      have hlt : p.1.toNat < rows.length := by omega
      rw [List.foldl_cons, ih _ (by simpa [rowAdd] using hl) (fun q hq => hp q (List.mem_cons_of_mem _ hq))]
      have : ((rowAdd rows p).map List.length).sum = (rows.map List.length).sum + 1 := by
        unfold rowAdd
        have e : ∀ (rs : List (List Int)) (i : Nat) (x : List Int), i < rs.length → ((rs.set i x).map List.length).sum + (rs.getD i []).length = (rs.map List.length).sum + x.length := fun rs => by
          induction rs with
          | nil => intro i x h; simp at h
          | cons r rs ih =>
            intro i x h
            cases i with
            | zero => simp [List.getD]; omega
            | succ i =>
              have := ih i x (by simpa using h)
              simp only [List.set_cons_succ, List.map_cons, List.sum_cons, List.getD_cons_succ]
              omega
        have := e rows p.1.toNat (rows.getD p.1.toNat [] ++ [p.2]) hlt
        rw [List.length_append, List.length_singleton] at this
        omega
      rw [this, List.length_cons]; omega
  have := key fs (List.replicate N []) (by simp) h
  simpa [rowsOf] using this

/-! ### Close -/
noncomputable def X28 : FuncId → List AV → Option AV := tabLook [(18, tRel R38), (19, tRel R39)]
theorem X28_ok : CPSound Try.prog X28 := tab_cons (tab_cons (tab_nil _) (tRel_ok R39_ok)) (tRel_ok R38_ok)
theorem X28_38 {N : Nat} (S F : Int) (ss) {fs : List (Int × Int)} (hN : N ≤ 1000) (hfs : fs.length ≤ 100000) (hin : ∀ p ∈ fs, 0 ≤ p.1 ∧ p.1 < (N : Int)) : X28 18 [nfaV N S F ss fs] = some (closerV N (rowsOf N fs)) := by
  show tRel R38 _ = _
  exact tRel_eq R38_fn ⟨N, S, F, ss, fs, hN, hfs, hin, rfl, rfl⟩
theorem X28_39 {N : Nat} {fs : List (Int × Int)} (hN : N ≤ 1000) (hfs : fs.length ≤ 100000) (hin : ∀ p ∈ fs, 0 ≤ p.1 ∧ p.1 < (N : Int)) (l : List Int) (hl : l.length ≤ 9000000) : X28 19 [closerV N (rowsOf N fs), slI l] = some (slI (idxs (closeB N (rowsOf N fs) l))) := by
  show tRel R39 _ = _
  exact tRel_eq R39_fn ⟨N, rowsOf N fs, l, by omega, rowsOf_length _ _, by rw [rows_sum hin]; omega, rfl, rfl⟩
theorem look28 (X) : lookedAt (EX md0 X) (fun _ => none) 2 Try.f12 = true := by kernel_rfl
theorem nfaClose_ok (N : Nat) (hN : N ≤ 1000) (S F : Int) (ss) (fs : List (Int × Int)) (hfs : fs.length ≤ 100000) (hin : ∀ p ∈ fs, 0 ≤ p.1 ∧ p.1 < (N : Int)) (l : List Int) (hl : l.length ≤ 9000000) : Ok Try.prog 12 [nfaV N S F ss fs, slI l] (slI (idxs (closeB N (rowsOf N fs) l))) := by
  refine ok_of_WP (E := EX md0 X28) (cr := noR) X28_ok (noR_ok _) mixed (k := 0) Try.func12 (look28 _) rfl ?_
  have h38 := X28_38 S F ss hN hfs hin
  have h39 := X28_39 hN hfs hin l hl
  simp only [Try.f12, Option.getD_some]
  simp (disch := omega) only [go_sem, ↓IntWalk.iteOmega, IntWalk.toNatUp, Nat.reduceEqDiff, Nat.reduceAdd, Nat.reduceMul, Nat.reduceSub, Nat.reduceLT, Nat.reduceLeDiff, Int.reduceToNat, Int.reduceLT, Int.reduceLE, Int.reduceEq, Int.reduceAdd, Int.reduceSub, Int.reduceMul, Int.toNat_natCast, reduceCtorEq, decide_true, decide_false, IntWalk.i64_in, IntWalk.u64_in, IntWalk.u8_in, begin_, h38, h39]

/-! ### Run -/
/-- Is a mode one of a set's? -/
def hasMode (set m : Int) : Bool := decide (andI .i64 (set.fdiv (2 ^ min m.toNat 64)) 1 = 1)
/-- Does a step lead on by a mode, from states? -/
def leads (b : List Bool) (m : Int) (s : Int × Int × Int) : Bool := b.getD s.1.toNat false && (decide (0 ≤ m) && decide (m < 5) && hasMode s.2.2 m)
def nextOf (ss : List (Int × Int × Int)) (b : List Bool) (m : Int) : List Int := (ss.filter (leads b m)).map (·.2.1)
noncomputable def stepB (N : Nat) (rows : List (List Int)) (ss : List (Int × Int × Int)) (b : List Bool) (m : Int) : List Bool := closeB N rows (nextOf ss b m)
noncomputable def setB (N : Nat) (S : Int) (ss : List (Int × Int × Int)) (fs : List (Int × Int)) (w : List Int) : List Bool := w.foldl (stepB N (rowsOf N fs) ss) (closeB N (rowsOf N fs) [S])
noncomputable def runB (N : Nat) (S F : Int) (ss : List (Int × Int × Int)) (fs : List (Int × Int)) (w : List Int) : Bool := (setB N S ss fs w).getD F.toNat false
theorem setB_snoc (N S ss fs w m) : setB N S ss fs (w ++ [m]) = stepB N (rowsOf N fs) ss (setB N S ss fs w) m := by simp [setB]
theorem setB_length (N S ss fs w) : (setB N S ss fs w).length = N := by
  rcases List.eq_nil_or_concat w with rfl | ⟨w, m, rfl⟩
  · simp [setB, closeB_length]
  · rw [List.concat_eq_append, setB_snoc, stepB, closeB_length]
theorem nextOf_snoc (ss s b m) : nextOf (ss ++ [s]) b m = nextOf ss b m ++ (if leads b m s then [s.2.1] else []) := by
  unfold nextOf
  rw [List.filter_append, List.map_append]
  congr 1
  cases h : leads b m s <;> simp [h]
theorem nextOf_le (ss b m) : (nextOf ss b m).length ≤ ss.length := by
  unfold nextOf; rw [List.length_map]; exact List.length_filter_le _ _
theorem mem_idxs {b : List Bool} {x : Int} : x ∈ idxs b ↔ ∃ s : Nat, x = s ∧ b.getD s false = true := by
  unfold idxs
  rw [List.mem_flatten]
  constructor
  · rintro ⟨l, hl, hx⟩
    obtain ⟨s, _, rfl⟩ := List.mem_map.1 hl
    cases hb : b.getD s false with
    | true => rw [hb] at hx; exact ⟨s, by simpa using hx, hb⟩
    | false => rw [hb] at hx; simp at hx
  · rintro ⟨s, rfl, hb⟩
    have hs : s < b.length := by
      by_cases h : s < b.length
      · exact h
      · rw [List.getD, List.getElem?_eq_none (by omega)] at hb; cases hb
    exact ⟨_, List.mem_map.2 ⟨s, List.mem_range.2 hs, rfl⟩, by rw [hb]; simp⟩
def marks (N : Nat) (l : List Int) : List Bool := l.foldl (fun b s => b.set s.toNat true) (List.replicate N false)
theorem marks_snoc (N l x) : marks N (l ++ [x]) = (marks N l).set x.toNat true := by simp [marks]
theorem marks_length (N l) : (marks N l).length = N := by
  have : ∀ (l : List Int) (b : List Bool), (l.foldl (fun b s => b.set s.toNat true) b).length = b.length := fun l => by
    induction l with
    | nil => intro; rfl
    | cons x l ih => intro b; rw [List.foldl_cons, ih, List.length_set]
  rw [marks, this, List.length_replicate]
theorem marks_get (N : Nat) (l : List Int) (h : ∀ x ∈ l, 0 ≤ x ∧ x < (N : Int)) (s : Nat) : (marks N l).getD s false = true ↔ (s : Int) ∈ l := by
  have key : ∀ (l : List Int) (b : List Bool), b.length = N → (∀ x ∈ l, 0 ≤ x ∧ x < (N : Int)) → ((l.foldl (fun b s => b.set s.toNat true) b).getD s false = true ↔ b.getD s false = true ∨ (s : Int) ∈ l) := fun l => by
    induction l with
    | nil => intro b _ _; simp
    | cons x l ih =>
      intro b hb hx
      have h0 := hx x (List.mem_cons_self ..)
      rw [List.foldl_cons, ih _ (by rw [List.length_set]; exact hb) (fun y hy => hx y (List.mem_cons_of_mem _ hy)), getD_set _ _ _ _ _ (by omega), List.mem_cons]
      by_cases e : x.toNat = s
      · have : (s : Int) = x := by omega
        simp [e, this]
      · have : ¬ (s : Int) = x := by omega
        rw [if_neg e]; simp [this]
  have h0 : (List.replicate N false).getD s false = false := by simp only [List.getD, List.getElem?_replicate]; split <;> rfl
  have := key l (List.replicate N false) (by simp) h
  rw [h0] at this
  simpa [marks] using this
theorem idxs_in {b : List Bool} {x : Int} (h : x ∈ idxs b) : 0 ≤ x ∧ x < b.length := by
  obtain ⟨s, rfl, hb⟩ := mem_idxs.1 h
  by_cases h : s < b.length
  · omega
  · rw [List.getD, List.getElem?_eq_none (by omega)] at hb; cases hb
theorem marks_idxs (b : List Bool) : marks b.length (idxs b) = b := by
  refine List.ext_getElem (marks_length _ _) fun s h1 h2 => ?_
  have e1 : (marks b.length (idxs b)).getD s false = (marks b.length (idxs b))[s] := by simp [List.getD, h1]
  have e2 : b.getD s false = b[s] := by simp [List.getD, h2]
  rw [Bool.eq_iff_iff, ← e1, ← e2, marks_get _ _ (fun x hx => idxs_in hx), mem_idxs]
  constructor
  · rintro ⟨t, ht, hb⟩
    have : s = t := by omega
    rw [this]; exact hb
  · exact fun hb => ⟨s, rfl, hb⟩
/-- A machine that may be. -/
structure Wf (N : Nat) (S F : Int) (ss : List (Int × Int × Int)) (fs : List (Int × Int)) : Prop where
  n : N ≤ 1000
  s : 0 ≤ S ∧ S < N
  f : 0 ≤ F ∧ F < N
  ls : ss.length ≤ 100000
  lf : fs.length ≤ 100000
  steps : ∀ p ∈ ss, (0 ≤ p.1 ∧ p.1 < N) ∧ (0 ≤ p.2.1 ∧ p.2.1 < N)
  free : ∀ p ∈ fs, (0 ≤ p.1 ∧ p.1 < N) ∧ (0 ≤ p.2 ∧ p.2 < N)
theorem getD_mem {α : Type} {l : List α} {i : Nat} (h : i < l.length) (d : α) : l.getD i d ∈ l := by
  have : l.getD i d = l[i] := by simp [List.getD, h]
  rw [this]; exact List.getElem_mem h

theorem look20 (X) : lookedAt (EX md0 X) (fun _ => none) 2 Try.f9 = true := by kernel_rfl
theorem nfaRun_ok (N : Nat) (S F : Int) (ss) (fs : List (Int × Int)) (hw : Wf N S F ss fs) (w : List Int) (hlw : w.length ≤ 1000000) : Ok Try.prog 9 [nfaV N S F ss fs, slI w] (.bool (runB N S F ss fs w)) := by
  refine ok_of_WP (E := EX md0 X28) (cr := noR) X28_ok (noR_ok _) mixed (k := N + ss.length + w.length + 1) Try.func9 (look20 _) rfl ?_
  have h38 := X28_38 S F ss hw.n hw.lf (fun p hp => (hw.free p hp).1)
  have h39 := X28_39 hw.n hw.lf (fun p hp => (hw.free p hp).1)
  have hN := hw.n
  have hls := hw.ls
  simp only [Try.f9, Option.getD_some]
  have h39a := h39 [S] (by simp)
  rw [show slI [S] = .sl 1 [.int .i64 S] from rfl] at h39a
  simp (disch := omega) only [go_sem, ↓IntWalk.iteOmega, IntWalk.toNatUp, Nat.reduceEqDiff, Nat.reduceAdd, Nat.reduceMul, Nat.reduceSub, Nat.reduceLT, Nat.reduceLeDiff, Int.reduceToNat, Int.reduceLT, Int.reduceLE, Int.reduceEq, Int.reduceAdd, Int.reduceSub, Int.reduceMul, Int.toNat_natCast, reduceCtorEq, decide_true, decide_false, IntWalk.i64_in, IntWalk.u64_in, IntWalk.u8_in, begin_, h38, h39a]
  refine WP_loop (fun m a o nx => ∃ i, i ≤ w.length ∧ m = w.length - i ∧ 4 ≤ nx ∧ a 2 = .ptr (0, 2) (0, 2) 0 ∧ a 5 = .fn (.func 19) [closerV N (rowsOf N fs)] [] ∧ a 6 = slI (idxs (setB N S ss fs (w.take i))) ∧ a 25 = slI w ∧ a 26 = .int .i64 w.length ∧ a 27 = .int .i64 i ∧
    o (0, 2) = some (.row ⟨33, 1, (0, 2), false, true, [.int .i64 N, .int .i64 S, .int .i64 F, .sl ss.length (cS ss), .sl fs.length (cP fs)]⟩)) w.length ?_ ?_ ?_
  · omega
  · refine ⟨0, by omega, by omega, ?_⟩
    simp only [go_sem, ↓IntWalk.iteOmega, IntWalk.toNatUp, Nat.reduceEqDiff, Nat.reduceAdd, Nat.reduceMul, Nat.reduceSub, Nat.reduceLT, Nat.reduceLeDiff, Int.reduceToNat, Int.reduceLT, Int.reduceLE, Int.reduceEq, Int.reduceAdd, Int.reduceSub, Int.reduceMul, Int.toNat_natCast, reduceCtorEq, decide_true, decide_false, IntWalk.i64_in, IntWalk.u64_in, IntWalk.u8_in, List.take_zero]
    rfl
  · rintro m a o nx ⟨i, hi, rfl, hnx, h2, h5, h6, h25, h26, h27, ho2⟩
    by_cases hlt : i < w.length
    · have hgw := cI_get (s := 1) hlt
      have htk := take_succ_getD hlt 0
      generalize w.getD i 0 = x at hgw htk
      simp (disch := omega) only [go_sem, ↓IntWalk.iteOmega, IntWalk.toNatUp, Nat.reduceEqDiff, Nat.reduceAdd, Nat.reduceMul, Nat.reduceSub, Nat.reduceLT, Nat.reduceLeDiff, Int.reduceToNat, Int.reduceLT, Int.reduceLE, Int.reduceEq, Int.reduceAdd, Int.reduceSub, Int.reduceMul, Int.toNat_natCast, reduceCtorEq, decide_true, decide_false, IntWalk.i64_in, IntWalk.u64_in, IntWalk.u8_in, h2, h5, h6, h25, h26, h27, ho2, hgw, rep_bool, IntWalk.i64_in]
      have hbl := setB_length N S ss fs (w.take i)
      have hnext : setB N S ss fs (w.take (i + 1)) = closeB N (rowsOf N fs) (nextOf ss (setB N S ss fs (w.take i)) x) := by rw [htk, setB_snoc]; rfl
      generalize setB N S ss fs (w.take i) = b at hbl hnext
      refine WP_loop (fun m a o nx' => ∃ j, j ≤ (idxs b).length ∧ m = (idxs b).length - j ∧ nx + 4 ≤ nx' ∧ a 2 = .ptr (0, 2) (0, 2) 0 ∧ a 5 = .fn (.func 19) [closerV N (rowsOf N fs)] [] ∧ a 8 = .int .i64 x ∧ a 9 = .ref (nx + 2, 33) (nx + 2, 33) 0 N ∧ a 25 = slI w ∧ a 26 = .int .i64 w.length ∧ a 27 = .int .i64 i ∧ a 34 = slI (idxs b) ∧ a 35 = .int .i64 (idxs b).length ∧ a 36 = .int .i64 j ∧
        o (0, 2) = some (.row ⟨33, 1, (0, 2), false, true, [.int .i64 N, .int .i64 S, .int .i64 F, .sl ss.length (cS ss), .sl fs.length (cP fs)]⟩) ∧ o (nx + 2, 33) = some (.row ⟨4, 1, (nx + 2, 33), false, true, cB (marks N ((idxs b).take j))⟩)) (idxs b).length ?_ ?_ ?_
      · have := idxs_le b; omega
      · refine ⟨0, by omega, by omega, by omega, ?_⟩
        simp only [go_sem, ↓IntWalk.iteOmega, IntWalk.toNatUp, Nat.reduceEqDiff, Nat.reduceAdd, Nat.reduceMul, Nat.reduceSub, Nat.reduceLT, Nat.reduceLeDiff, Int.reduceToNat, Int.reduceLT, Int.reduceLE, Int.reduceEq, Int.reduceAdd, Int.reduceSub, Int.reduceMul, Int.toNat_natCast, reduceCtorEq, decide_true, decide_false, IntWalk.i64_in, IntWalk.u64_in, IntWalk.u8_in, h2, h5, h25, h26, h27, ho2, List.take_zero]
        rfl
      · rintro m a o nx' ⟨j, hj, rfl, hnx', h2, h5, h8, h9, h25, h26, h27, h34, h35, h36, ho2, ho33⟩
        by_cases hjl : j < (idxs b).length
        · have hgj := cI_get (s := 1) hjl
          have hin := idxs_in (getD_mem hjl 0)
          have htj := take_succ_getD hjl 0
          generalize (idxs b).getD j 0 = y at hgj hin htj
          obtain ⟨y, rfl⟩ := Int.eq_ofNat_of_zero_le hin.1
          have hml := marks_length N ((idxs b).take j)
          have hset := cB_set (marks N ((idxs b).take j)) y true (by omega)
          have hlb := idxs_le b
          simp (disch := omega) only [go_sem, ↓IntWalk.iteOmega, IntWalk.toNatUp, Nat.reduceEqDiff, Nat.reduceAdd, Nat.reduceMul, Nat.reduceSub, Nat.reduceLT, Nat.reduceLeDiff, Int.reduceToNat, Int.reduceLT, Int.reduceLE, Int.reduceEq, Int.reduceAdd, Int.reduceSub, Int.reduceMul, Int.toNat_natCast, reduceCtorEq, decide_true, decide_false, IntWalk.i64_in, IntWalk.u64_in, IntWalk.u8_in, h2, h5, h8, h9, h25, h26, h27, h34, h35, h36, ho2, ho33, hgj, hml, hset, IntWalk.i64_in]
          exact ⟨_, by omega, j + 1, by omega, rfl, by omega, rfl, by rw [htj, marks_snoc]; rfl⟩
        · have hje : j = (idxs b).length := by omega
          have hmk := marks_idxs b
          rw [hbl] at hmk
          rw [hje, List.take_length, hmk] at ho33
          simp (disch := omega) only [go_sem, ↓IntWalk.iteOmega, IntWalk.toNatUp, Nat.reduceEqDiff, Nat.reduceAdd, Nat.reduceMul, Nat.reduceSub, Nat.reduceLT, Nat.reduceLeDiff, Int.reduceToNat, Int.reduceLT, Int.reduceLE, Int.reduceEq, Int.reduceAdd, Int.reduceSub, Int.reduceMul, Int.toNat_natCast, reduceCtorEq, decide_true, decide_false, IntWalk.i64_in, IntWalk.u64_in, IntWalk.u8_in, h2, h5, h8, h9, h25, h26, h27, h34, h35, h36, ho2, ho33, IntWalk.i64_in]
          refine WP_loop (fun m a o nx'' => ∃ j v, j ≤ ss.length ∧ m = ss.length - j ∧ nx' + 3 ≤ nx'' ∧ a 2 = .ptr (0, 2) (0, 2) 0 ∧ a 5 = .fn (.func 19) [closerV N (rowsOf N fs)] [] ∧ a 8 = .int .i64 x ∧ a 9 = .ref (nx + 2, 33) (nx + 2, 33) 0 N ∧ a 25 = slI w ∧ a 26 = .int .i64 w.length ∧ a 27 = .int .i64 i ∧ a 45 = .sl ss.length (cS ss) ∧ a 46 = .int .i64 ss.length ∧ a 47 = .int .i64 j ∧ a 12 = v ∧
            HS 3 1 76 o nx'' v (nextOf (ss.take j) b x).length (cI (nextOf (ss.take j) b x)) ∧
            o (0, 2) = some (.row ⟨33, 1, (0, 2), false, true, [.int .i64 N, .int .i64 S, .int .i64 F, .sl ss.length (cS ss), .sl fs.length (cP fs)]⟩) ∧ o (nx + 2, 33) = some (.row ⟨4, 1, (nx + 2, 33), false, true, cB b⟩)) ss.length ?_ ?_ ?_
          · omega
          · refine ⟨0, .nil, by omega, by omega, by omega, ?_⟩
            simp only [go_sem, ↓IntWalk.iteOmega, IntWalk.toNatUp, Nat.reduceEqDiff, Nat.reduceAdd, Nat.reduceMul, Nat.reduceSub, Nat.reduceLT, Nat.reduceLeDiff, Int.reduceToNat, Int.reduceLT, Int.reduceLE, Int.reduceEq, Int.reduceAdd, Int.reduceSub, Int.reduceMul, Int.toNat_natCast, reduceCtorEq, decide_true, decide_false, IntWalk.i64_in, IntWalk.u64_in, IntWalk.u8_in, h2, h5, h8, h9, h25, h26, h27, ho2, ho33, List.take_zero]
            exact HS.nil
          · rintro m a o nx'' ⟨j, v, hj, rfl, hnx'', h2, h5, h8, h9, h25, h26, h27, h45, h46, h47, h12, hHS, ho2, ho33⟩
            by_cases hjs : j < ss.length
            · have hat := cS_at hjs
              obtain ⟨⟨q1, q2⟩, _⟩ := hw.steps _ (getD_mem hjs (0, 0, 0))
              have htj := take_succ_getD hjs (0, 0, 0)
              have hnl := nextOf_le (ss.take j) b x
              rw [List.length_take] at hnl
              generalize ss.getD j (0, 0, 0) = p at hat q1 q2 htj
              obtain ⟨f, t, set⟩ := p
              simp only at hat q1 q2
              obtain ⟨f, rfl⟩ := Int.eq_ofNat_of_zero_le q1
              have hgb := cB_get (s := 1) (show f < b.length by omega)
              have hsn : nextOf (ss.take (j + 1)) b x = nextOf (ss.take j) b x ++ (if leads b x (↑f, t, set) then [t] else []) := by rw [htj, nextOf_snoc]
              have hld : leads b x (↑f, t, set) = (b.getD f false && (decide (0 ≤ x) && decide (x < 5) && hasMode set x)) := rfl
              cases hbf : b.getD f false with
              | false =>
                rw [hbf] at hgb hld
                rw [hld] at hsn
                simp only [Bool.false_and, Bool.false_eq_true, if_false, List.append_nil] at hsn
                simp (disch := omega) only [go_sem, ↓IntWalk.iteOmega, IntWalk.toNatUp, Nat.reduceEqDiff, Nat.reduceAdd, Nat.reduceMul, Nat.reduceSub, Nat.reduceLT, Nat.reduceLeDiff, Int.reduceToNat, Int.reduceLT, Int.reduceLE, Int.reduceEq, Int.reduceAdd, Int.reduceSub, Int.reduceMul, Int.toNat_natCast, reduceCtorEq, decide_true, decide_false, IntWalk.i64_in, IntWalk.u64_in, IntWalk.u8_in, h2, h5, h8, h9, h25, h26, h27, h45, h46, h47, h12, ho2, ho33, hat, hgb, IntWalk.i64_in]
                exact ⟨_, by omega, j + 1, v, by omega, rfl, by omega, rfl, rfl, by rw [hsn]; exact hHS.keep (fun _ _ => by simp [upd_app]) (by omega)⟩
              | true =>
                rw [hbf] at hgb hld
                rw [hld] at hsn
                by_cases hx0 : 0 ≤ x
                · by_cases hx5 : x < 5
                  · rw [decide_eq_true hx0, decide_eq_true hx5] at hsn
                    cases hm : hasMode set x with
                    | true =>
                      rw [hm] at hsn
                      simp only [hasMode, decide_eq_true_eq] at hm
                      simp only [Bool.and_self, if_true] at hsn
                      have hHS' := hHS
                      rcases hHS with ⟨rfl, e2, e3⟩ | ⟨i1, g1, rfl, hi1, hrow, hlen⟩
                      · simp (disch := omega) only [go_sem, ↓IntWalk.iteOmega, IntWalk.toNatUp, Nat.reduceEqDiff, Nat.reduceAdd, Nat.reduceMul, Nat.reduceSub, Nat.reduceLT, Nat.reduceLeDiff, Int.reduceToNat, Int.reduceLT, Int.reduceLE, Int.reduceEq, Int.reduceAdd, Int.reduceSub, Int.reduceMul, Int.toNat_natCast, reduceCtorEq, decide_true, decide_false, IntWalk.i64_in, IntWalk.u64_in, IntWalk.u8_in, h2, h5, h8, h9, h25, h26, h27, h45, h46, h47, h12, ho2, ho33, hat, hgb, hm, IntWalk.i64_in]
                        have e4 : nextOf (ss.take j) b x = [] := List.length_eq_zero_iff.1 e2
                        refine ⟨_, ?_, j + 1, _, by omega, rfl, by omega, rfl, rfl, .inr ⟨nx'' + 3, (nx'' + 3, 76), ?_, by omega, ?_, ?_⟩⟩
                        · omega
                        · rw [hsn, e4]; rfl
                        · rw [hsn, e4]; simp [upd_app, cI]
                        · rw [hsn, e4]; rfl
                      · simp (disch := omega) only [go_sem, ↓IntWalk.iteOmega, IntWalk.toNatUp, Nat.reduceEqDiff, Nat.reduceAdd, Nat.reduceMul, Nat.reduceSub, Nat.reduceLT, Nat.reduceLeDiff, Int.reduceToNat, Int.reduceLT, Int.reduceLE, Int.reduceEq, Int.reduceAdd, Int.reduceSub, Int.reduceMul, Int.toNat_natCast, reduceCtorEq, decide_true, decide_false, IntWalk.i64_in, IntWalk.u64_in, IntWalk.u8_in, h2, h5, h8, h9, h25, h26, h27, h45, h46, h47, h12, ho2, ho33, hat, hgb, hm, hrow, IntWalk.i64_in]
                        refine ⟨_, ?_, j + 1, _, by omega, rfl, by omega, rfl, rfl, .inr ⟨i1, (nx'' + 3, 76), ?_, by omega, ?_, ?_⟩⟩
                        · omega
                        · rw [hsn, List.length_append]; rfl
                        · rw [hsn, cI_app]; simp [upd_app, cI]
                        · rw [cI_length, Nat.mul_one]
                    | false =>
                      rw [hm] at hsn
                      simp only [hasMode, decide_eq_false_iff_not] at hm
                      simp only [Bool.and_self, Bool.and_false, Bool.false_eq_true, if_false, List.append_nil] at hsn
                      simp (disch := omega) only [go_sem, ↓IntWalk.iteOmega, IntWalk.toNatUp, Nat.reduceEqDiff, Nat.reduceAdd, Nat.reduceMul, Nat.reduceSub, Nat.reduceLT, Nat.reduceLeDiff, Int.reduceToNat, Int.reduceLT, Int.reduceLE, Int.reduceEq, Int.reduceAdd, Int.reduceSub, Int.reduceMul, Int.toNat_natCast, reduceCtorEq, decide_true, decide_false, IntWalk.i64_in, IntWalk.u64_in, IntWalk.u8_in, h2, h5, h8, h9, h25, h26, h27, h45, h46, h47, h12, ho2, ho33, hat, hgb, hm, IntWalk.i64_in]
                      exact ⟨_, by omega, j + 1, v, by omega, rfl, by omega, rfl, rfl, by rw [hsn]; exact hHS.keep (fun _ _ => by simp [upd_app]) (by omega)⟩
                  · rw [decide_eq_false hx5] at hsn
                    simp only [Bool.and_false, Bool.false_and, Bool.false_eq_true, if_false, List.append_nil] at hsn
                    simp (disch := omega) only [go_sem, ↓IntWalk.iteOmega, IntWalk.toNatUp, Nat.reduceEqDiff, Nat.reduceAdd, Nat.reduceMul, Nat.reduceSub, Nat.reduceLT, Nat.reduceLeDiff, Int.reduceToNat, Int.reduceLT, Int.reduceLE, Int.reduceEq, Int.reduceAdd, Int.reduceSub, Int.reduceMul, Int.toNat_natCast, reduceCtorEq, decide_true, decide_false, IntWalk.i64_in, IntWalk.u64_in, IntWalk.u8_in, h2, h5, h8, h9, h25, h26, h27, h45, h46, h47, h12, ho2, ho33, hat, hgb, IntWalk.i64_in]
                    exact ⟨_, by omega, j + 1, v, by omega, rfl, by omega, rfl, rfl, by rw [hsn]; exact hHS.keep (fun _ _ => by simp [upd_app]) (by omega)⟩
                · rw [decide_eq_false hx0] at hsn
                  simp only [Bool.and_false, Bool.false_and, Bool.false_eq_true, if_false, List.append_nil] at hsn
                  simp (disch := omega) only [go_sem, ↓IntWalk.iteOmega, IntWalk.toNatUp, Nat.reduceEqDiff, Nat.reduceAdd, Nat.reduceMul, Nat.reduceSub, Nat.reduceLT, Nat.reduceLeDiff, Int.reduceToNat, Int.reduceLT, Int.reduceLE, Int.reduceEq, Int.reduceAdd, Int.reduceSub, Int.reduceMul, Int.toNat_natCast, reduceCtorEq, decide_true, decide_false, IntWalk.i64_in, IntWalk.u64_in, IntWalk.u8_in, h2, h5, h8, h9, h25, h26, h27, h45, h46, h47, h12, ho2, ho33, hat, hgb, IntWalk.i64_in]
                  exact ⟨_, by omega, j + 1, v, by omega, rfl, by omega, rfl, rfl, by rw [hsn]; exact hHS.keep (fun _ _ => by simp [upd_app]) (by omega)⟩
            · have hje : j = ss.length := by omega
              subst hje
              rw [List.take_length] at hHS
              have hvw : view o 1012 v = slI (nextOf ss b x) := by have := hHS.view 1011; rwa [view_cI] at this
              have hnin : nin (0, 2) (viewTags o 1012 v) = true := hHS.nin 1011 (tags_cI _ _ _) (by decide)
              have hnl := nextOf_le ss b x
              simp (disch := omega) only [go_sem, ↓IntWalk.iteOmega, IntWalk.toNatUp, Nat.reduceEqDiff, Nat.reduceAdd, Nat.reduceMul, Nat.reduceSub, Nat.reduceLT, Nat.reduceLeDiff, Int.reduceToNat, Int.reduceLT, Int.reduceLE, Int.reduceEq, Int.reduceAdd, Int.reduceSub, Int.reduceMul, Int.toNat_natCast, reduceCtorEq, decide_true, decide_false, IntWalk.i64_in, IntWalk.u64_in, IntWalk.u8_in, h2, h5, h8, h9, h25, h26, h27, h45, h46, h47, h12, ho2, ho33, hvw, hnin, h39, IntWalk.i64_in]
              exact ⟨_, by omega, i + 1, by omega, rfl, by omega, by rw [hnext], rfl⟩
    · have hie : i = w.length := by omega
      subst hie
      rw [List.take_length] at h6
      have hbl := setB_length N S ss fs w
      have hrun : runB N S F ss fs w = (setB N S ss fs w).getD F.toNat false := rfl
      rw [hrun]
      generalize setB N S ss fs w = b at hbl h6
      simp (disch := omega) only [go_sem, ↓IntWalk.iteOmega, IntWalk.toNatUp, Nat.reduceEqDiff, Nat.reduceAdd, Nat.reduceMul, Nat.reduceSub, Nat.reduceLT, Nat.reduceLeDiff, Int.reduceToNat, Int.reduceLT, Int.reduceLE, Int.reduceEq, Int.reduceAdd, Int.reduceSub, Int.reduceMul, Int.toNat_natCast, reduceCtorEq, decide_true, decide_false, IntWalk.i64_in, IntWalk.u64_in, IntWalk.u8_in, h2, h5, h6, h25, h26, h27, ho2, IntWalk.i64_in]
      have hwf := hw.f
      obtain ⟨F, rfl⟩ := Int.eq_ofNat_of_zero_le hwf.1
      rw [Int.toNat_natCast]
      refine WP_loop (fun m a o nx' => ∃ j, j ≤ (idxs b).length ∧ m = (idxs b).length - j ∧ nx + 2 ≤ nx' ∧ a 2 = .ptr (0, 2) (0, 2) 0 ∧ a 82 = slI (idxs b) ∧ a 83 = .int .i64 (idxs b).length ∧ a 84 = .int .i64 j ∧ ¬ (F : Int) ∈ (idxs b).take j ∧
        o (0, 2) = some (.row ⟨33, 1, (0, 2), false, true, [.int .i64 N, .int .i64 S, .int .i64 F, .sl ss.length (cS ss), .sl fs.length (cP fs)]⟩)) (idxs b).length ?_ ?_ ?_
      · have := idxs_le b; omega
      · refine ⟨0, by omega, by omega, by omega, ?_⟩
        simp only [go_sem, ↓IntWalk.iteOmega, IntWalk.toNatUp, Nat.reduceEqDiff, Nat.reduceAdd, Nat.reduceMul, Nat.reduceSub, Nat.reduceLT, Nat.reduceLeDiff, Int.reduceToNat, Int.reduceLT, Int.reduceLE, Int.reduceEq, Int.reduceAdd, Int.reduceSub, Int.reduceMul, Int.toNat_natCast, reduceCtorEq, decide_true, decide_false, IntWalk.i64_in, IntWalk.u64_in, IntWalk.u8_in, h2, ho2, List.take_zero]
        simp
      · rintro m a o nx' ⟨j, hj, rfl, hnx', h2, h82, h83, h84, hmem, ho2⟩
        have hlb := idxs_le b
        by_cases hjl : j < (idxs b).length
        · have hgj := cI_get (s := 1) hjl
          have htj := take_succ_getD hjl 0
          have hmj := getD_mem hjl 0
          generalize (idxs b).getD j 0 = y at hgj htj hmj
          by_cases hy : y = F
          · subst hy
            have hb : b.getD F false = true := by
              obtain ⟨s, h1, h2⟩ := mem_idxs.1 hmj
              rwa [show s = F by omega] at h2
            simp (disch := omega) only [go_sem, ↓IntWalk.iteOmega, IntWalk.toNatUp, Nat.reduceEqDiff, Nat.reduceAdd, Nat.reduceMul, Nat.reduceSub, Nat.reduceLT, Nat.reduceLeDiff, Int.reduceToNat, Int.reduceLT, Int.reduceLE, Int.reduceEq, Int.reduceAdd, Int.reduceSub, Int.reduceMul, Int.toNat_natCast, reduceCtorEq, decide_true, decide_false, IntWalk.i64_in, IntWalk.u64_in, IntWalk.u8_in, h2, h82, h83, h84, ho2, hgj, hb, IntWalk.i64_in]
          · simp (disch := omega) only [go_sem, ↓IntWalk.iteOmega, IntWalk.toNatUp, Nat.reduceEqDiff, Nat.reduceAdd, Nat.reduceMul, Nat.reduceSub, Nat.reduceLT, Nat.reduceLeDiff, Int.reduceToNat, Int.reduceLT, Int.reduceLE, Int.reduceEq, Int.reduceAdd, Int.reduceSub, Int.reduceMul, Int.toNat_natCast, reduceCtorEq, decide_true, decide_false, IntWalk.i64_in, IntWalk.u64_in, IntWalk.u8_in, h2, h82, h83, h84, ho2, hgj, hy, IntWalk.i64_in]
            exact ⟨_, by omega, j + 1, by omega, rfl, by omega, rfl, by rw [htj, List.mem_append, List.mem_singleton]; exact fun h => h.elim hmem (fun h => hy h.symm)⟩
        · have hje : j = (idxs b).length := by omega
          rw [hje, List.take_length] at hmem
          have hb : b.getD F false = false := by
            rw [← Bool.not_eq_true]
            exact fun hb => hmem (mem_idxs.2 ⟨F, rfl, hb⟩)
          simp (disch := omega) only [go_sem, ↓IntWalk.iteOmega, IntWalk.toNatUp, Nat.reduceEqDiff, Nat.reduceAdd, Nat.reduceMul, Nat.reduceSub, Nat.reduceLT, Nat.reduceLeDiff, Int.reduceToNat, Int.reduceLT, Int.reduceLE, Int.reduceEq, Int.reduceAdd, Int.reduceSub, Int.reduceMul, Int.toNat_natCast, reduceCtorEq, decide_true, decide_false, IntWalk.i64_in, IntWalk.u64_in, IntWalk.u8_in, h2, h82, h83, h84, ho2, hb, IntWalk.i64_in]
end Go.Proofs.Ytfmijoglolecgaa.A
/- Words of numbers. -/
namespace Go.Proofs.Ytfmijoglolecgaa.A
open Go
set_option maxRecDepth 20000
/-! ### words -/
def wordOf (ns : List Int) (most few : Int) : List Int := (ns.take most.toNat).map fun x => x % (1 + few % 5)
theorem lookWord (X) : lookedAt (EX md0 X) (fun _ => none) 3 Try.f8 = true := by kernel_rfl
theorem word_ok (ns : List Int) (most few : Int) (hm : 0 ≤ most ∧ most ≤ 1000) : Ok Try.prog 8 [slI ns, .int .i64 most, .int .i64 few] (slI (wordOf ns most few)) := by
  obtain ⟨most, rfl⟩ := Int.eq_ofNat_of_zero_le hm.1
  refine ok_of_WP (E := EX md0 (tabLook [(17, tRel RW)])) (cr := noR) (tab_cons (tab_nil _) (tRel_ok within1_ok)) (noR_ok _) mixed (k := most + 1) Try.func8 (lookWord _) rfl ?_
  have h37 : ∀ a n : Int, 0 < n → n ≤ 1000000 → tabLook [(17, tRel RW)] 17 [.int .i64 a, .int .i64 n] = some (.int .i64 (a % n)) := fun a n h1 h2 => rw_eq h1 h2
  have hf0 := Int.emod_nonneg few (show (5 : Int) ≠ 0 by decide)
  have hf5 := Int.emod_lt_of_pos few (show (0 : Int) < 5 by decide)
  simp only [Try.f8, Option.getD_some]
  simp (disch := omega) only [go_sem, ↓IntWalk.iteOmega, IntWalk.toNatUp, Nat.reduceEqDiff, Nat.reduceAdd, Nat.reduceMul, Nat.reduceSub, Nat.reduceLT, Nat.reduceLeDiff, Int.reduceToNat, Int.reduceLT, Int.reduceLE, Int.reduceEq, Int.reduceAdd, Int.reduceSub, Int.reduceMul, Int.toNat_natCast, reduceCtorEq, decide_true, decide_false, IntWalk.i64_in, IntWalk.u64_in, IntWalk.u8_in]
  refine WP_loop (fun m a o nx => ∃ i, i ≤ ns.length ∧ i ≤ most ∧ m = most - i ∧ a 0 = slI ns ∧ a 1 = .int .i64 most ∧ a 2 = .int .i64 few ∧ a 8 = .int .i64 i ∧ HS 3 1 30 o nx (a 7) i (cI ((ns.take i).map fun x => x % (1 + few % 5)))) most ?_ ?_ ?_
  · omega
  · refine ⟨0, by omega, by omega, by omega, ?_⟩
    simp (disch := omega) only [go_sem, ↓IntWalk.iteOmega, IntWalk.toNatUp, Nat.reduceEqDiff, Nat.reduceAdd, Nat.reduceMul, Nat.reduceSub, Nat.reduceLT, Nat.reduceLeDiff, Int.reduceToNat, Int.reduceLT, Int.reduceLE, Int.reduceEq, Int.reduceAdd, Int.reduceSub, Int.reduceMul, Int.toNat_natCast, reduceCtorEq, decide_true, decide_false, IntWalk.i64_in, IntWalk.u64_in, IntWalk.u8_in, List.take_zero]
    exact HS.nil
  · rintro m a o nx ⟨i, hi, him, rfl, h0, h1, h2, h8, hHS⟩
    by_cases hlt : i < ns.length
    · by_cases hlm : i < most
      · have hg := cI_get (s := 1) hlt
        have htk := take_succ_getD hlt 0
        generalize ns.getD i 0 = x at hg htk
        generalize hv : a 7 = v at hHS
        rcases hHS with ⟨rfl, e2, e3⟩ | ⟨i1, g1, rfl, hi1, hrow, hlen⟩
        · simp (disch := omega) only [go_sem, ↓IntWalk.iteOmega, IntWalk.toNatUp, Nat.reduceEqDiff, Nat.reduceAdd, Nat.reduceMul, Nat.reduceSub, Nat.reduceLT, Nat.reduceLeDiff, Int.reduceToNat, Int.reduceLT, Int.reduceLE, Int.reduceEq, Int.reduceAdd, Int.reduceSub, Int.reduceMul, Int.toNat_natCast, reduceCtorEq, decide_true, decide_false, IntWalk.i64_in, IntWalk.u64_in, IntWalk.u8_in, h0, h1, h2, h8, hv, hg, h37]
          have e4 : (ns.take i).map (fun x => x % (1 + few % 5)) = [] := cI_inj e3
          refine ⟨_, ?_, i + 1, by omega, by omega, rfl, rfl, .inr ⟨nx + 1, (nx + 1, 30), ?_, by omega, ?_, ?_⟩⟩
          · omega
          · rw [e2]
          · rw [htk, List.map_append, e4]; simp [upd_app, cI]
          · rw [htk, List.map_append, e4, e2]; rfl
        · have hall : (cI ((ns.take i).map fun x => x % (1 + few % 5))).take i = cI ((ns.take i).map fun x => x % (1 + few % 5)) := take_len (by rw [hlen, Nat.mul_one])
          rw [Nat.mul_one] at hlen
          simp (disch := omega) only [go_sem, ↓IntWalk.iteOmega, IntWalk.toNatUp, Nat.reduceEqDiff, Nat.reduceAdd, Nat.reduceMul, Nat.reduceSub, Nat.reduceLT, Nat.reduceLeDiff, Int.reduceToNat, Int.reduceLT, Int.reduceLE, Int.reduceEq, Int.reduceAdd, Int.reduceSub, Int.reduceMul, Int.toNat_natCast, reduceCtorEq, decide_true, decide_false, IntWalk.i64_in, IntWalk.u64_in, IntWalk.u8_in, h0, h1, h2, h8, hv, hg, hrow, h37, hlen, hall]
          refine ⟨_, ?_, i + 1, by omega, by omega, rfl, rfl, .inr ⟨i1, (nx + 1, 30), rfl, by omega, ?_, ?_⟩⟩
          · omega
          · rw [htk, List.map_append, cI_app]; simp [upd_app, cI]
          · rw [htk, List.map_append, cI_app, List.length_append, hlen]; simp [cI]
      · have hie : i = most := by omega
        have hvw := hHS.view 1011
        rw [view_cI] at hvw
        simp (disch := omega) only [go_sem, ↓IntWalk.iteOmega, IntWalk.toNatUp, Nat.reduceEqDiff, Nat.reduceAdd, Nat.reduceMul, Nat.reduceSub, Nat.reduceLT, Nat.reduceLeDiff, Int.reduceToNat, Int.reduceLT, Int.reduceLE, Int.reduceEq, Int.reduceAdd, Int.reduceSub, Int.reduceMul, Int.toNat_natCast, reduceCtorEq, decide_true, decide_false, IntWalk.i64_in, IntWalk.u64_in, IntWalk.u8_in, h0, h1, h2, h8, hvw]
        have e : ((ns.take i).map fun x => x % (1 + few % 5)) = wordOf ns most few := by rw [hie]; rfl
        rw [e]
        have : (wordOf ns most few).length = i := by rw [wordOf, List.length_map, List.length_take, Int.toNat_natCast]; omega
        rw [slI, this]
    · have hie : i = ns.length := by omega
      have hvw := hHS.view 1011
      rw [view_cI] at hvw
      simp (disch := omega) only [go_sem, ↓IntWalk.iteOmega, IntWalk.toNatUp, Nat.reduceEqDiff, Nat.reduceAdd, Nat.reduceMul, Nat.reduceSub, Nat.reduceLT, Nat.reduceLeDiff, Int.reduceToNat, Int.reduceLT, Int.reduceLE, Int.reduceEq, Int.reduceAdd, Int.reduceSub, Int.reduceMul, Int.toNat_natCast, reduceCtorEq, decide_true, decide_false, IntWalk.i64_in, IntWalk.u64_in, IntWalk.u8_in, h0, h1, h2, h8, hvw]
      have e : ((ns.take i).map fun x => x % (1 + few % 5)) = wordOf ns most few := by rw [wordOf, Int.toNat_natCast, List.take_of_length_le (by omega), List.take_of_length_le (by omega)]
      rw [e]
      have : (wordOf ns most few).length = i := by rw [wordOf, List.length_map, List.length_take, Int.toNat_natCast]; omega
      rw [slI, this]

def RWord (args : List AV) (r : AV) : Prop := ∃ (ns : List Int) (most few : Int), (0 ≤ most ∧ most ≤ 1000) ∧ args = [slI ns, .int .i64 most, .int .i64 few] ∧ r = slI (wordOf ns most few)
theorem RWord_fn : Fun1 RWord := by
  rintro args r r' ⟨a, b, c, _, rfl, rfl⟩ ⟨a', b', c', _, h, rfl⟩
  simp only [List.cons.injEq, AV.int.injEq, AV.sl.injEq, true_and, and_true] at h
  obtain ⟨⟨_, h1⟩, h2, h3⟩ := h
  rw [cI_inj h1, h2, h3]
theorem RWord_ok (args r) (h : RWord args r) : Ok Try.prog 8 args r := by obtain ⟨a, b, c, h, rfl, rfl⟩ := h; exact word_ok a b c h
theorem wordOf_le (ns : List Int) (most few : Int) : (wordOf ns most few).length ≤ most.toNat := by rw [wordOf, List.length_map, List.length_take]; omega
end Go.Proofs.Ytfmijoglolecgaa.A
/- nfa.Build: the machine of any tree. -/
namespace Go.Proofs.Ytfmijoglolecgaa.A
open Go
set_option maxRecDepth 20000
abbrev b0 : BS := ⟨0, [], []⟩
/-- What is built. -/
def builtV (r : (Int × Int) × BS) : AV := if r.2.n > 1000 then .tup [nfaV 0 0 0 [] [], .int .i64 4] else .tup [nfaV r.2.n r.1.1 r.1.2 r.2.s r.2.f, .int .i64 0]
def nzBuild (id : Nat) : Option (List (Nat × Nat)) := if id = 5 then some [(4, 15), (6, 15), (8, 15), (15, 20), (15, 21), (4, 22), (6, 22), (8, 22), (13, 22), (14, 22), (15, 22), (4, 24), (6, 24), (8, 24), (13, 24), (14, 24), (15, 24), (20, 24), (21, 24), (22, 24)] else none
theorem lookBuild (X) : lookedAt (EX md0 X) nzBuild 1 Try.f7 = true := by kernel_rfl
theorem crBuild_ok : CRSound Try.prog (tabLookR [(15, cRel RPartB), (16, cRel RFull)]) ∧ Up (tabLookR [(15, cRel RPartB), (16, cRel RFull)]) :=
  tabR_cons (tabR_cons (tabR_nil _) fun args H v H' h => (cRel_some h).1) fun args H v H' h => (cRel_some h).1
theorem rep_len (z : List AV) (n : Nat) : (rep z n).length = n * z.length := by
  induction n with
  | zero => simp [rep]
  | succ n ih => rw [rep, List.length_append, ih, Nat.succ_mul]; omega
theorem nfaBuild_ok {x : Nd} (hk : okN x = true) (hh : hN x ≤ 1000) : Ok Try.prog 7 [nodeV x] (builtV (bPart x b0)) := by
  obtain ⟨cr, hcr⟩ : ∃ cr, cr = tabLookR [(15, cRel RPartB), (16, cRel RFull)] := ⟨_, rfl⟩
  have hP : cr 15 = cRel RPartB := by rw [hcr]; rfl
  have hU : cr 16 = cRel RFull := by rw [hcr]; rfl
  have hbd := part_bd x hk b0
  obtain ⟨r, hr⟩ : ∃ r, r = bPart x b0 := ⟨_, rfl⟩
  refine ok_of_WP (E := EX md0 (fun _ _ => none)) (cr := cr) (nz := nzBuild) (cp_none _) (hcr ▸ crBuild_ok) mixed (k := 0) Try.func7 (lookBuild _) rfl ?_
  clear hcr
  simp only [Try.f7, Option.getD_some]
  simp (disch := omega) only [go_sem, ↓IntWalk.iteOmega, IntWalk.toNatUp, Nat.reduceEqDiff, Nat.reduceAdd, Nat.reduceMul, Nat.reduceSub, Nat.reduceLT, Nat.reduceLeDiff, Int.reduceToNat, Int.reduceLT, Int.reduceLE, Int.reduceEq, Int.reduceAdd, Int.reduceSub, Int.reduceMul, Int.toNat_natCast, reduceCtorEq, decide_true, decide_false, IntWalk.i64_in, IntWalk.u64_in, IntWalk.u8_in, hP, nzBuild]
  have hB0 : BAt (upd (upd (upd (fun x => none) (0, 1) (.row ⟨28, 1, (0, 1), false, true, cNd x⟩)) (0, 2) (.row ⟨33, 1, (0, 2), false, true, [.int .i64 0, .int .i64 0, .int .i64 0, .nil, .nil]⟩)) (1, 8) (.row ⟨49, 1, (1, 8), false, true, [.int .i64 0, .int .i64 0, .int .i64 0, .nil, .nil]⟩)) 3 1 b0 :=
    ⟨.nil, .nil, by omega, upd_same _ _ _, HS.nil, HS.nil⟩
  refine part_call (part_all x hk hh 1 _ _ b0 hB0 ⟨Nat.le_refl _, Nat.le_refl _, by show 0 + 2 * hN x ≤ _; omega⟩) hB0 ?_
  intro o1 nx1 hle1 hB1 hk1
  have hx2 : o1 (0, 2) = some (.row ⟨33, 1, (0, 2), false, true, [.int .i64 0, .int .i64 0, .int .i64 0, .nil, .nil]⟩) := by rw [hk1 _ _ (by omega) (fun e => absurd e (by decide)) (by decide) (by decide)]; simp [upd_app]
  clear hB0 hk1
  rw [← hr] at hB1 ⊢
  have b1 : r.2.n ≤ 4000 := by have := hbd.hi; rw [hr]; have : b0.n = 0 := rfl; omega
  have b2 : r.2.f.length ≤ 16000 := by have := hbd.f4; have e1 : b0.n = 0 := rfl; have e2 : b0.f.length = 0 := rfl; rw [← hr] at this; omega
  have b3 : r.2.s.length ≤ 4000 := by have := hbd.s1; have e1 : b0.n = 0 := rfl; have e2 : b0.s.length = 0 := rfl; rw [← hr] at this; omega
  clear hr hbd
  simp (disch := omega) only [go_sem, ↓IntWalk.iteOmega, IntWalk.toNatUp, Nat.reduceEqDiff, Nat.reduceAdd, Nat.reduceMul, Nat.reduceSub, Nat.reduceLT, Nat.reduceLeDiff, Int.reduceToNat, Int.reduceLT, Int.reduceLE, Int.reduceEq, Int.reduceAdd, Int.reduceSub, Int.reduceMul, Int.toNat_natCast, reduceCtorEq, decide_true, decide_false, IntWalk.i64_in, IntWalk.u64_in, IntWalk.u8_in, hU, nzBuild]
  refine full_call (hB1.slot2 (fun i j hj => ?_) (by omega)) ?_
  · have : j ≠ 5 := by omega
    simp [upd_app, this]
  intro o2 nx2 hle2 hB2 hk2
  have hx22 : o2 (0, 2) = some (.row ⟨33, 1, (0, 2), false, true, [.int .i64 0, .int .i64 0, .int .i64 0, .nil, .nil]⟩) := by rw [hk2 _ _ (by omega) (fun e => absurd e (by decide)) (by decide) (by decide)]; simp [upd_app, hx2]
  have hx5 : o2 (2, 5) = some (.row ⟨51, 1, (2, 5), false, true, [.int .i64 r.1.1, .int .i64 r.1.2]⟩) := by rw [hk2 _ _ (by omega) (fun e => absurd e (by decide)) (by decide) (by decide)]; simp [upd_app]
  clear hk2 hB1 hx2
  by_cases hfull : (1000 : Int) < r.2.n
  · have e : builtV r = .tup [nfaV 0 0 0 [] [], .int .i64 4] := if_pos (by omega)
    rw [e]
    simp (disch := omega) only [go_sem, ↓IntWalk.iteOmega, IntWalk.toNatUp, Nat.reduceEqDiff, Nat.reduceAdd, Nat.reduceMul, Nat.reduceSub, Nat.reduceLT, Nat.reduceLeDiff, Int.reduceToNat, Int.reduceLT, Int.reduceLE, Int.reduceEq, Int.reduceAdd, Int.reduceSub, Int.reduceMul, Int.toNat_natCast, reduceCtorEq, decide_true, decide_false, IntWalk.i64_in, IntWalk.u64_in, IntWalk.u8_in, hfull, hx22, nzBuild]
    rfl
  · have e : builtV r = .tup [nfaV r.2.n r.1.1 r.1.2 r.2.s r.2.f, .int .i64 0] := if_neg (by omega)
    rw [e]
    obtain ⟨vS, vF, hB⟩ := hB2
    have r1 := hB.lt
    have r2 := hB.row
    have r3 := hB.s.ok
    have r4 := hB.f.ok
    have s0 := cS_inj (x := r.2.s) (y := [])
    have f0 := cP_inj (x := r.2.f) (y := [])
    have l3 := rep_len [.int .i64 0, .int .i64 0, .int .i64 0] r.2.s.length
    have l2 := rep_len [.int .i64 0, .int .i64 0] r.2.f.length
    simp only [List.length_cons, List.length_nil, Nat.zero_add, Nat.reduceAdd] at l3 l2
    have d3 : (rep [.int .i64 0, .int .i64 0, .int .i64 0] r.2.s.length).drop (r.2.s.length * 3) = [] := List.drop_of_length_le (by omega)
    have d2 : (rep [.int .i64 0, .int .i64 0] r.2.f.length).drop (r.2.f.length * 2) = [] := List.drop_of_length_le (by omega)
    rcases hB.s with ⟨rfl, q2, q3⟩ | ⟨i1, g1, rfl, hi1, hrow, hlen⟩
    · rcases hB.f with ⟨rfl, q5, q6⟩ | ⟨i2, g2, rfl, hi2, hrow2, hlen2⟩
      · simp (disch := omega) only [go_sem, ↓IntWalk.iteOmega, IntWalk.toNatUp, Nat.reduceEqDiff, Nat.reduceAdd, Nat.reduceMul, Nat.reduceSub, Nat.reduceLT, Nat.reduceLeDiff, Int.reduceToNat, Int.reduceLT, Int.reduceLE, Int.reduceEq, Int.reduceAdd, Int.reduceSub, Int.reduceMul, Int.toNat_natCast, reduceCtorEq, decide_true, decide_false, IntWalk.i64_in, IntWalk.u64_in, IntWalk.u8_in, hfull, hx22, hx5, r2, nzBuild]
        rw [s0 q3, f0 q6]
        rfl
      · simp (disch := omega) only [go_sem, ↓IntWalk.iteOmega, IntWalk.toNatUp, Nat.reduceEqDiff, Nat.reduceAdd, Nat.reduceMul, Nat.reduceSub, Nat.reduceLT, Nat.reduceLeDiff, Int.reduceToNat, Int.reduceLT, Int.reduceLE, Int.reduceEq, Int.reduceAdd, Int.reduceSub, Int.reduceMul, Int.toNat_natCast, reduceCtorEq, decide_true, decide_false, IntWalk.i64_in, IntWalk.u64_in, IntWalk.u8_in, hfull, hx22, hx5, r2, nzBuild, hrow2, l2, l3, d2, d3]
        rw [s0 q3]
        rfl
    · rcases hB.f with ⟨rfl, q5, q6⟩ | ⟨i2, g2, rfl, hi2, hrow2, hlen2⟩
      · simp (disch := omega) only [go_sem, ↓IntWalk.iteOmega, IntWalk.toNatUp, Nat.reduceEqDiff, Nat.reduceAdd, Nat.reduceMul, Nat.reduceSub, Nat.reduceLT, Nat.reduceLeDiff, Int.reduceToNat, Int.reduceLT, Int.reduceLE, Int.reduceEq, Int.reduceAdd, Int.reduceSub, Int.reduceMul, Int.toNat_natCast, reduceCtorEq, decide_true, decide_false, IntWalk.i64_in, IntWalk.u64_in, IntWalk.u8_in, hfull, hx22, hx5, r2, nzBuild, hrow, l2, l3, d2, d3]
        rw [f0 q6]
        rfl
      · simp (disch := omega) only [go_sem, ↓IntWalk.iteOmega, IntWalk.toNatUp, Nat.reduceEqDiff, Nat.reduceAdd, Nat.reduceMul, Nat.reduceSub, Nat.reduceLT, Nat.reduceLeDiff, Int.reduceToNat, Int.reduceLT, Int.reduceLE, Int.reduceEq, Int.reduceAdd, Int.reduceSub, Int.reduceMul, Int.toNat_natCast, reduceCtorEq, decide_true, decide_false, IntWalk.i64_in, IntWalk.u64_in, IntWalk.u8_in, hfull, hx22, hx5, r2, nzBuild, hrow, hrow2, l2, l3, d2, d3]
end Go.Proofs.Ytfmijoglolecgaa.A
/- What may be built, by either builder. -/
namespace Go.Proofs.Ytfmijoglolecgaa.A
open Go
set_option maxRecDepth 20000
mutual
/-- What both builders build alike. -/
def okQ : Nd → Bool
  | .mk kind _ lo hi l => okQs l && (if kind = 4 ∨ kind = 5 then decide (0 < l.length ∧ l.length ≤ 10) else if kind = 6 ∨ kind = 7 ∨ kind = 8 then decide (l.length = 1) else if kind = 9 then decide (0 < l.length ∧ l.length ≤ 10 ∧ 0 ≤ lo ∧ lo ≤ hi ∧ hi ≤ 10) else decide (l.length = 0))
def okQs : List Nd → Bool
  | [] => true
  | x :: l => okQ x && okQs l
end
mutual
theorem okQ_N : ∀ (x : Nd), okQ x = true → okN x = true
  | .mk kind set lo hi l, h => by
    rw [okQ, Bool.and_eq_true] at h
    rw [okN, okQs_Ns l h.1, Bool.true_and]
    have h2 := h.2
    by_cases k4 : kind = 4 ∨ kind = 5
    · rw [if_pos k4] at h2
      rw [if_pos (by omega)]; exact h2
    rw [if_neg k4] at h2
    by_cases k6 : kind = 6 ∨ kind = 7 ∨ kind = 8
    · rw [if_pos k6, decide_eq_true_eq] at h2
      rw [if_pos (by omega), decide_eq_true_eq]; omega
    rw [if_neg k6] at h2
    rw [if_neg (by omega)]
    by_cases k9 : kind = 9
    · rw [if_pos k9] at h2 ⊢; exact h2
    · rw [if_neg k9]
theorem okQs_Ns : ∀ (l : List Nd), okQs l = true → okNs l = true
  | [], _ => by rw [okNs]
  | x :: l, h => by
    rw [okQs, Bool.and_eq_true] at h
    rw [okNs, okQ_N x h.1, okQs_Ns l h.2]; rfl
end
end Go.Proofs.Ytfmijoglolecgaa.A
/- What is built is a machine that may be; raw expressions' trees. -/
namespace Go.Proofs.Ytfmijoglolecgaa.A
open Go
set_option maxRecDepth 20000
def InN (n : Nat) (v : Int) : Prop := 0 ≤ v ∧ v < (n : Int)
theorem InN.mono {n n' : Nat} {v : Int} (h : InN n v) (hn : n ≤ n') : InN n' v := ⟨h.1, by have := h.2; omega⟩
structure WB (b : BS) : Prop where
  f : ∀ p ∈ b.f, InN b.n p.1 ∧ InN b.n p.2
  s : ∀ q ∈ b.s, InN b.n q.1 ∧ InN b.n q.2.1 ∧ 1 ≤ q.2.2 ∧ q.2.2 ≤ 31
theorem WB.state {b : BS} (h : WB b) : WB b.state := ⟨fun p hp => ⟨(h.f p hp).1.mono (Nat.le_succ _), (h.f p hp).2.mono (Nat.le_succ _)⟩, fun q hq => ⟨(h.s q hq).1.mono (Nat.le_succ _), (h.s q hq).2.1.mono (Nat.le_succ _), (h.s q hq).2.2⟩⟩
theorem WB.frees {b : BS} (h : WB b) {l : List (Int × Int)} (hl : ∀ p ∈ l, InN b.n p.1 ∧ InN b.n p.2) : WB (b.frees l) := ⟨fun p hp => by
  rcases List.mem_append.1 hp with hp | hp
  · exact h.f p hp
  · exact hl p hp, h.s⟩
def GoodF (f : BF) : Prop := ∀ b, WB b → WB (f b).2 ∧ InN (f b).2.n (f b).1.1 ∧ InN (f b).2.n (f b).1.2 ∧ b.n ≤ (f b).2.n
theorem parts_good : ∀ (fs : List BF) (b : BS) (out : List (Int × Int)), (∀ f ∈ fs, GoodF f) → WB b → (∀ p ∈ out, InN b.n p.1 ∧ InN b.n p.2) → WB (bParts fs b out).2 ∧ (∀ p ∈ (bParts fs b out).1, InN (bParts fs b out).2.n p.1 ∧ InN (bParts fs b out).2.n p.2) ∧ b.n ≤ (bParts fs b out).2.n ∧ (fs ≠ [] → 0 < (bParts fs b out).2.n)
  | [], b, out, _, hb, ho => ⟨hb, ho, Nat.le_refl _, fun h => absurd rfl h⟩
  | f :: fs, b, out, hf, hb, ho => by
    rw [bParts]
    by_cases hn : b.n > 1000
    · rw [if_pos hn]
      exact ⟨hb, fun p hp => (by cases hp), Nat.le_refl _, fun _ => by show 0 < b.n; omega⟩
    · rw [if_neg hn]
      obtain ⟨h1, h2, h3, h4⟩ := hf f List.mem_cons_self b hb
      obtain ⟨g1, g2, g3, _⟩ := parts_good fs (f b).2 (out ++ [(f b).1]) (fun g hg => hf g (List.mem_cons_of_mem _ hg)) h1 (fun p hp => by
        rcases List.mem_append.1 hp with hp | hp
        · exact ⟨(ho p hp).1.mono h4, (ho p hp).2.mono h4⟩
        · rw [List.mem_singleton.1 hp]; exact ⟨h2, h3⟩)
      exact ⟨g1, g2, Nat.le_trans h4 g3, fun _ => by have := h2.1; have := h2.2; omega⟩
theorem in_self (n : Nat) : InN (n + 1) (n : Int) := ⟨by omega, by omega⟩
theorem once_good {f : BF} (hf : GoodF f) (ar bk : Bool) : GoodF (bOnce f ar bk) := by
  intro b hb
  obtain ⟨h1, h2, h3, h4⟩ := hf b.state hb.state
  have e1 : b.state.n = b.n + 1 := rfl
  have e2 : (f b.state).2.state.n = (f b.state).2.n + 1 := rfl
  have i0 : InN (f b.state).2.state.n (b.n : Int) := ⟨by omega, by rw [e2]; omega⟩
  have i1 : InN (f b.state).2.state.n ((f b.state).2.n : Int) := by rw [e2]; exact in_self _
  have i2 := h2.mono (n' := (f b.state).2.state.n) (by rw [e2]; omega)
  have i3 := h3.mono (n' := (f b.state).2.state.n) (by rw [e2]; omega)
  refine ⟨h1.state.frees (fun p hp => ?_), i0, i1, by show b.n ≤ (f b.state).2.n + 1; omega⟩
  simp only [List.mem_append] at hp
  rcases hp with ((hp | hp) | hp) | hp
  · rw [List.mem_singleton.1 hp]; exact ⟨i0, i2⟩
  · split at hp
    · rw [List.mem_singleton.1 hp]; exact ⟨i0, i1⟩
    · cases hp
  · split at hp
    · rw [List.mem_singleton.1 hp]; exact ⟨i3, i2⟩
    · cases hp
  · rw [List.mem_singleton.1 hp]; exact ⟨i3, i1⟩
theorem links_good {n : Nat} : ∀ (l : List (Int × Int)), (∀ p ∈ l, InN n p.1 ∧ InN n p.2) → ∀ p ∈ links l, InN n p.1 ∧ InN n p.2
  | [], _, p, hp => by rw [links] at hp; cases hp; intro _ _ _ h; cases h
  | [_], _, p, hp => by rw [links] at hp; cases hp; intro _ _ _ h; cases h
  | a :: b :: l, h, p, hp => by
    rw [links] at hp
    rcases List.mem_cons.1 hp with rfl | hp
    · exact ⟨(h a List.mem_cons_self).2, (h b (List.mem_cons_of_mem _ List.mem_cons_self)).1⟩
    · exact links_good (b :: l) (fun p hp => h p (List.mem_cons_of_mem _ hp)) p hp
theorem rLinks_good {n : Nat} {lo e : Int} (he : InN n e) : ∀ (i : Nat) (l : List (Int × Int)), (∀ p ∈ l, InN n p.1 ∧ InN n p.2) → ∀ p ∈ rLinks lo e i l, InN n p.1 ∧ InN n p.2
  | i, [], _, p, hp => by rw [rLinks] at hp; cases hp
  | i, [a], h, p, hp => by rw [rLinks] at hp; rw [List.mem_singleton.1 hp]; exact ⟨(h a List.mem_cons_self).2, he⟩
  | i, a :: b :: l, h, p, hp => by
    rw [rLinks] at hp
    rcases List.mem_append.1 hp with hp | hp
    · split at hp
      · rw [List.mem_singleton.1 hp]; exact ⟨(h a List.mem_cons_self).2, he⟩
      · cases hp
    · rcases List.mem_cons.1 hp with rfl | hp
      · exact ⟨(h a List.mem_cons_self).2, (h b (List.mem_cons_of_mem _ List.mem_cons_self)).1⟩
      · exact rLinks_good he (i + 1) (b :: l) (fun p hp => h p (List.mem_cons_of_mem _ hp)) p hp
theorem rep_good {f : BF} (hf : GoodF f) (lo : Int) (k : Nat) : GoodF (bRepeat lo k f) := by
  intro b hb
  obtain ⟨h1, h2, h3, _⟩ := parts_good (List.replicate k f) b.state [] (fun g hg => by rw [List.eq_of_mem_replicate hg]; exact hf) hb.state (fun p hp => by cases hp)
  have hbr : bRepeat lo k f b = if (bParts (List.replicate k f) b.state []).2.state.n > 1000 then (((b.n : Int), ((bParts (List.replicate k f) b.state []).2.n : Int)), (bParts (List.replicate k f) b.state []).2.state) else (((b.n : Int), ((bParts (List.replicate k f) b.state []).2.n : Int)), (bParts (List.replicate k f) b.state []).2.state.frees (headL b.n (bParts (List.replicate k f) b.state []).1 ++ rLinks lo (bParts (List.replicate k f) b.state []).2.n 0 (bParts (List.replicate k f) b.state []).1 ++ (if lo = 0 then [((b.n : Int), ((bParts (List.replicate k f) b.state []).2.n : Int))] else []))) := rfl
  obtain ⟨r, hr⟩ : ∃ r, r = bParts (List.replicate k f) b.state [] := ⟨_, rfl⟩
  rw [← hr] at h1 h2 h3 hbr
  have e1 : b.state.n = b.n + 1 := rfl
  have e2 : r.2.state.n = r.2.n + 1 := rfl
  have i0 : InN r.2.state.n (b.n : Int) := ⟨by omega, by rw [e2]; omega⟩
  have i1 : InN r.2.state.n (r.2.n : Int) := by rw [e2]; exact in_self _
  have h2' : ∀ p ∈ r.1, InN r.2.state.n p.1 ∧ InN r.2.state.n p.2 := fun p hp => ⟨(h2 p hp).1.mono (by rw [e2]; omega), (h2 p hp).2.mono (by rw [e2]; omega)⟩
  rw [hbr]
  split
  · exact ⟨h1.state, i0, i1, by show b.n ≤ r.2.n + 1; omega⟩
  · refine ⟨h1.state.frees (fun p hp => ?_), i0, i1, by show b.n ≤ r.2.n + 1; omega⟩
    rcases List.mem_append.1 hp with hp | hp
    · rcases List.mem_append.1 hp with hp | hp
      · cases hr1 : r.1 with
        | nil => rw [hr1] at hp; cases hp
        | cons a l =>
          rw [hr1] at hp h2'
          rw [List.mem_singleton.1 hp]
          exact ⟨i0, (h2' a List.mem_cons_self).1⟩
      · exact rLinks_good i1 0 r.1 h2' p hp
    · split at hp
      · rw [List.mem_singleton.1 hp]; exact ⟨i0, i1⟩
      · cases hp
theorem union_good {fs : List BF} (hf : ∀ f ∈ fs, GoodF f) : GoodF (bUnion fs) := by
  intro b hb
  obtain ⟨h1, h2, h3, _⟩ := parts_good fs b.state [] hf hb.state (fun p hp => by cases hp)
  have hbr : bUnion fs b = (((b.n : Int), ((bParts fs b.state []).2.n : Int)), (bParts fs b.state []).2.state.frees (uLinks b.n (bParts fs b.state []).2.n (bParts fs b.state []).1)) := rfl
  obtain ⟨r, hr⟩ : ∃ r, r = bParts fs b.state [] := ⟨_, rfl⟩
  rw [← hr] at h1 h2 h3 hbr
  have e1 : b.state.n = b.n + 1 := rfl
  have e2 : r.2.state.n = r.2.n + 1 := rfl
  have i0 : InN r.2.state.n (b.n : Int) := ⟨by omega, by rw [e2]; omega⟩
  have i1 : InN r.2.state.n (r.2.n : Int) := by rw [e2]; exact in_self _
  rw [hbr]
  refine ⟨h1.state.frees (fun p hp => ?_), i0, i1, by show b.n ≤ r.2.n + 1; omega⟩
  obtain ⟨q, hq, hp⟩ := List.mem_flatMap.1 hp
  have q1 := (h2 q hq).1.mono (n' := r.2.state.n) (by rw [e2]; omega)
  have q2 := (h2 q hq).2.mono (n' := r.2.state.n) (by rw [e2]; omega)
  rcases List.mem_cons.1 hp with rfl | hp
  · exact ⟨i0, q1⟩
  · rw [List.mem_singleton.1 hp]; exact ⟨q2, i1⟩
theorem getLastD_mem {α : Type} {l : List α} (h : l ≠ []) (d : α) : l.getLastD d ∈ l := by
  rw [List.getLastD_eq_getLast?, List.getLast?_eq_some_getLast h]
  exact List.getLast_mem h
theorem join_good {fs : List BF} (hf : ∀ f ∈ fs, GoodF f) (hne : fs ≠ []) : GoodF (bJoin fs) := by
  intro b hb
  obtain ⟨h1, h2, h3, h4⟩ := parts_good fs b [] hf hb (fun p hp => by cases hp)
  have hbr : bJoin fs b = if (bParts fs b []).2.n > 1000 ∨ (bParts fs b []).1 = [] then ((0, 0), (bParts fs b []).2) else ((((bParts fs b []).1.headD (0, 0)).1, ((bParts fs b []).1.getLastD (0, 0)).2), (bParts fs b []).2.frees (links (bParts fs b []).1)) := rfl
  obtain ⟨r, hr⟩ : ∃ r, r = bParts fs b [] := ⟨_, rfl⟩
  rw [← hr] at h1 h2 h3 h4 hbr
  have hpos := h4 hne
  rw [hbr]
  split
  · exact ⟨h1, ⟨Int.le_refl _, by show (0 : Int) < r.2.n; omega⟩, ⟨Int.le_refl _, by show (0 : Int) < r.2.n; omega⟩, h3⟩
  · rename_i hc
    have hne' : r.1 ≠ [] := fun e => hc (.inr e)
    refine ⟨h1.frees (links_good r.1 h2), ?_, ?_, h3⟩
    · cases hr1 : r.1 with
      | nil => exact absurd hr1 hne'
      | cons a l => rw [hr1] at h2; exact (h2 a List.mem_cons_self).1
    · exact (h2 _ (getLastD_mem hne' _)).2
mutual
/-- The sets of its signs may be. -/
def okS : Nd → Bool
  | .mk kind set _ _ l => okSs l && (if kind = 1 then decide (1 ≤ set ∧ set ≤ 31) else true)
def okSs : List Nd → Bool
  | [] => true
  | x :: l => okS x && okSs l
end
theorem leaf_good {kind set : Int} (h : kind = 1 → 1 ≤ set ∧ set ≤ 31) : GoodF (bLeaf kind set) := by
  intro b hb
  have i0 : InN (b.n + 1 + 1) (b.n : Int) := ⟨by omega, by omega⟩
  have i1 : InN (b.n + 1 + 1) ((b.n : Int) + 1) := ⟨by omega, by omega⟩
  have hw := hb.state.state
  unfold bLeaf
  dsimp only
  by_cases k1 : kind = 1
  · rw [if_pos k1]
    refine ⟨⟨hw.f, fun q hq => ?_⟩, i0, i1, by show b.n ≤ b.n + 1 + 1; omega⟩
    rcases List.mem_append.1 hq with hq | hq
    · exact hw.s q hq
    · rw [List.mem_singleton.1 hq]; exact ⟨i0, i1, h k1⟩
  rw [if_neg k1]
  split
  · refine ⟨⟨fun p hp => ?_, hw.s⟩, i0, i1, by show b.n ≤ b.n + 1 + 1; omega⟩
    rcases List.mem_append.1 hp with hp | hp
    · exact hw.f p hp
    · rw [List.mem_singleton.1 hp]; exact ⟨i0, i1⟩
  · exact ⟨hw, i0, i1, by show b.n ≤ b.n + 1 + 1; omega⟩
mutual
theorem part_good : ∀ (x : Nd), okN x = true → okS x = true → GoodF (bPart x)
  | .mk kind set lo hi l, hk, hs => by
    rw [okN, Bool.and_eq_true] at hk
    rw [okS, Bool.and_eq_true] at hs
    obtain ⟨hk1, hk2⟩ := hk
    have hl := parts_good' l hk1 hs.1
    rw [bPart]
    have hd : 0 < l.length → GoodF ((bPartL l).headD fun b => ((0, 0), b)) := fun h => by
      cases l with
      | nil => exact absurd h (by simp)
      | cons x l => exact hl _ (by rw [bPartL]; exact List.mem_cons_self)
    have hne : 0 < l.length → bPartL l ≠ [] := fun h e => by
      have := congrArg List.length e
      rw [bPartL_length] at this
      simp only [List.length_nil] at this; omega
    unfold bNode
    by_cases k4 : kind = 4
    · rw [if_pos k4]
      rw [if_pos (.inl k4), decide_eq_true_eq] at hk2
      exact join_good hl (hne hk2.1)
    by_cases k5 : kind = 5
    · rw [if_neg k4, if_pos k5]
      exact union_good hl
    by_cases k6 : kind = 6
    · rw [if_neg k4, if_neg k5, if_pos k6]
      rw [if_pos (.inr (.inr (.inl k6))), decide_eq_true_eq] at hk2
      exact once_good (hd hk2.1) _ _
    by_cases k7 : kind = 7
    · rw [if_neg k4, if_neg k5, if_neg k6, if_pos k7]
      rw [if_pos (.inr (.inr (.inr (.inl k7)))), decide_eq_true_eq] at hk2
      exact once_good (hd hk2.1) _ _
    by_cases k8 : kind = 8
    · rw [if_neg k4, if_neg k5, if_neg k6, if_neg k7, if_pos k8]
      rw [if_pos (.inr (.inr (.inr (.inr k8)))), decide_eq_true_eq] at hk2
      exact once_good (hd hk2.1) _ _
    by_cases k9 : kind = 9
    · rw [if_neg k4, if_neg k5, if_neg k6, if_neg k7, if_neg k8, if_pos k9]
      rw [if_neg (by omega), if_pos k9, decide_eq_true_eq] at hk2
      exact rep_good (hd hk2.1) _ _
    rw [if_neg k4, if_neg k5, if_neg k6, if_neg k7, if_neg k8, if_neg k9]
    exact leaf_good (fun k1 => by have := hs.2; rw [if_pos k1, decide_eq_true_eq] at this; exact this)
theorem parts_good' : ∀ (l : List Nd), okNs l = true → okSs l = true → ∀ f ∈ bPartL l, GoodF f
  | [], _, _, f, hf => by rw [bPartL] at hf; cases hf
  | x :: l, hk, hs, f, hf => by
    rw [okNs, Bool.and_eq_true] at hk
    rw [okSs, Bool.and_eq_true] at hs
    rw [bPartL] at hf
    rcases List.mem_cons.1 hf with e | hf
    · have := part_good x hk.1 hs.1
      rw [e]; exact this
    · exact parts_good' l hk.2 hs.2 f hf
end
theorem wb0 : WB b0 := ⟨fun p hp => (by cases hp), fun q hq => (by cases hq)⟩
theorem built_wf {x : Nd} (hk : okN x = true) (hs : okS x = true) (hn : (bPart x b0).2.n ≤ 1000) : Wf (bPart x b0).2.n (bPart x b0).1.1 (bPart x b0).1.2 (bPart x b0).2.s (bPart x b0).2.f ∧ (bPart x b0).2.s.length ≤ 1000 := by
  obtain ⟨hw, h1, h2, _⟩ := part_good x hk hs b0 wb0
  have hbd := part_bd x hk b0
  have b4 := hbd.f4
  have b5 := hbd.s1
  have z1 : b0.n = 0 := rfl
  have z2 : b0.f.length = 0 := rfl
  have z3 : b0.s.length = 0 := rfl
  exact ⟨⟨hn, h1, h2, by omega, by omega, fun p hp => ⟨(hw.s p hp).1, (hw.s p hp).2.1⟩, fun p hp => hw.f p hp⟩, by omega⟩
end Go.Proofs.Ytfmijoglolecgaa.A
/- Raw expressions' trees are right; ref6.Same. -/
namespace Go.Proofs.Ytfmijoglolecgaa.A
open Go
set_option maxRecDepth 20000
theorem sign_in (x : Int) : 1 ≤ sign x ∧ sign x ≤ 31 := by
  have h1 := Int.emod_nonneg x (show (5 : Int) ≠ 0 by decide)
  have h2 := Int.emod_lt_of_pos x (show (0 : Int) < 5 by decide)
  unfold sign
  obtain ⟨m, hm⟩ : ∃ m, m = x % 5 := ⟨_, rfl⟩
  rw [← hm] at h1 h2 ⊢
  have : m = 0 ∨ m = 1 ∨ m = 2 ∨ m = 3 ∨ m = 4 := by omega
  rcases this with rfl | rfl | rfl | rfl | rfl <;> decide
/-- Right, and not high. -/
def okT (h : Nat) (x : Nd) : Prop := okQ x = true ∧ okS x = true ∧ hN x ≤ h
theorem okT.mono {h h' x} (hx : okT h x) (hh : h ≤ h') : okT h' x := ⟨hx.1, hx.2.1, Nat.le_trans hx.2.2 hh⟩
theorem okT_leaf {set : Int} (h : 1 ≤ set ∧ set ≤ 31) : okT 1 (.mk 1 set 0 0 []) := by
  refine ⟨by rw [okQ, okQs]; rfl, ?_, by rw [hN, hNs]; omega⟩
  rw [okS, okSs, if_pos rfl, Bool.true_and, decide_eq_true_eq]; exact h
theorem okT_list : ∀ (l : List Nd) (h : Nat), (∀ x ∈ l, okT h x) → okQs l = true ∧ okSs l = true ∧ hNs l ≤ h
  | [], h, _ => ⟨by rw [okQs], by rw [okSs], by rw [hNs]; omega⟩
  | x :: l, h, hl => by
    obtain ⟨h1, h2, h3⟩ := hl x List.mem_cons_self
    obtain ⟨g1, g2, g3⟩ := okT_list l h (fun y hy => hl y (List.mem_cons_of_mem _ hy))
    rw [okQs, okSs, hNs, h1, h2, g1, g2]
    exact ⟨rfl, rfl, by omega⟩
theorem partN_ok (n : Int) (ls : List Nd) (h : Nat) (h1 : 1 ≤ h) (hl : ∀ x ∈ ls, okT h x) (i : Nat) : okT h (partN n ls i) := by
  unfold partN
  split
  · rename_i hi; exact hl _ (nd_mem hi)
  · exact (okT_leaf (sign_in _)).mono h1
theorem many_ok (n : Int) (ls : List Nd) (h : Nat) (h1 : 1 ≤ h) (hl : ∀ x ∈ ls, okT h x) (k : Nat) : ∀ x ∈ (List.range k).map (partN n ls), okT h x := by
  intro x hx
  obtain ⟨i, _, rfl⟩ := List.mem_map.1 hx
  exact partN_ok n ls h h1 hl i
theorem many4_le (n : Nat) : 2 ≤ many4 n ∧ many4 n ≤ 4 := by unfold many4; split <;> (try split) <;> omega
theorem buildN_ok (k n : Int) (ls : List Nd) (h : Nat) (h1 : 1 ≤ h) (hl : ∀ x ∈ ls, okT h x) : okT (h + 1) (buildN k n ls) := by
  have hm := many4_le ls.length
  have hp0 := partN_ok n ls h h1 hl 0
  have n4 : 0 ≤ n % 4 ∧ n % 4 < 4 := ⟨Int.emod_nonneg _ (by decide), Int.emod_lt_of_pos _ (by decide)⟩
  have n3 : 0 ≤ IntKind.i64.wrap (n.tdiv 4) % 3 ∧ IntKind.i64.wrap (n.tdiv 4) % 3 < 3 := ⟨Int.emod_nonneg _ (by decide), Int.emod_lt_of_pos _ (by decide)⟩
  have n31 : 0 ≤ n % 31 ∧ n % 31 < 31 := ⟨Int.emod_nonneg _ (by decide), Int.emod_lt_of_pos _ (by decide)⟩
  have hlist := okT_list _ h (many_ok n ls h h1 hl (many4 ls.length))
  have hlen : ((List.range (many4 ls.length)).map (partN n ls)).length = many4 ls.length := by simp
  have one : okQs [partN n ls 0] = true ∧ okSs [partN n ls 0] = true ∧ hNs [partN n ls 0] ≤ h := okT_list _ h (fun x hx => by rw [List.mem_singleton.1 hx]; exact hp0)
  unfold buildN
  repeat' split
  · exact (okT_leaf ⟨by omega, by omega⟩).mono (by omega)
  · exact (okT_leaf (sign_in _)).mono (by omega)
  · exact ⟨by rw [okQ, okQs]; rfl, by rw [okS, okSs]; rfl, by rw [hN, hNs]; omega⟩
  · exact ⟨by rw [okQ, okQs]; rfl, by rw [okS, okSs]; rfl, by rw [hN, hNs]; omega⟩
  · exact ⟨by rw [okQ, hlist.1, if_pos (.inl rfl), hlen, Bool.true_and, decide_eq_true_eq]; omega, by rw [okS, hlist.2.1]; rfl, by rw [hN]; omega⟩
  · exact ⟨by rw [okQ, hlist.1, if_pos (.inr rfl), hlen, Bool.true_and, decide_eq_true_eq]; omega, by rw [okS, hlist.2.1]; rfl, by rw [hN]; omega⟩
  · exact ⟨by rw [okQ, one.1]; rfl, by rw [okS, one.2.1]; rfl, by rw [hN]; omega⟩
  · exact ⟨by rw [okQ, one.1]; rfl, by rw [okS, one.2.1]; rfl, by rw [hN]; omega⟩
  · exact ⟨by rw [okQ, one.1]; rfl, by rw [okS, one.2.1]; rfl, by rw [hN]; omega⟩
  · refine ⟨?_, by rw [okS, one.2.1]; rfl, by rw [hN]; omega⟩
    rw [okQ, one.1, if_neg (by decide), if_neg (by decide), if_pos rfl, Bool.true_and, decide_eq_true_eq]
    simp only [List.length_cons, List.length_nil]
    omega
theorem fold_le {f : List Rw → Int} (hf : ∀ l, 0 ≤ f l) : ∀ (l : List Rw) (n : Int), l.foldl (szStep f) n ≤ 14 → n ≤ 14 ∧ ∀ r ∈ l, f (kids r) ≤ 14 ∨ n < 0
  | [], n, h => ⟨h, fun r hr => by cases hr⟩
  | r :: l, n, h => by
    rw [List.foldl_cons] at h
    obtain ⟨h1, h2⟩ := fold_le hf l _ h
    have := hf (kids r)
    unfold szStep at h1 h2
    split at h1
    · rename_i hn
      rw [if_pos hn] at h2
      refine ⟨by omega, fun q hq => ?_⟩
      rcases List.mem_cons.1 hq with rfl | hq
      · omega
      · have := h2 q hq; omega
    · omega
theorem makeNs_mem : ∀ {l : List Rw} {x : Nd}, x ∈ makeNs l → ∃ r ∈ l, x = makeN r
  | [], x, h => by rw [makeNs] at h; cases h
  | r :: l, x, h => by
    rw [makeNs] at h
    rcases List.mem_cons.1 h with rfl | h
    · exact ⟨r, List.mem_cons_self, rfl⟩
    · obtain ⟨q, hq, e⟩ := makeNs_mem h
      exact ⟨q, List.mem_cons_of_mem _ hq, e⟩
theorem made_ok : ∀ (d : Nat) (l : List Rw), szD d l ≤ 14 → ∀ r ∈ l, okT (d + 1) (makeN r)
  | 0, l, h, _, _ => by rw [szD] at h; omega
  | d + 1, l, h, r, hr => by
    rw [szD] at h
    obtain ⟨_, h2⟩ := fold_le (fun l => (sz_in d l).1) l 0 h
    have h3 : szD d (kids r) ≤ 14 := by have := h2 r hr; omega
    obtain ⟨k, n, ch⟩ := r
    have ih := made_ok d ch h3
    rw [makeN]
    exact buildN_ok k n _ (d + 1) (by omega) (fun x hx => by obtain ⟨q, hq, rfl⟩ := makeNs_mem hx; exact ih q hq)
theorem oneN_ok {l : List Rw} (h : fewR l = true) : okT 8 (oneN l) := by
  unfold fewR at h
  rw [decide_eq_true_eq] at h
  unfold oneN
  cases l with
  | nil => exact (okT_leaf ⟨by omega, by omega⟩).mono (by omega)
  | cons r l => exact made_ok 7 _ h r List.mem_cons_self
end Go.Proofs.Ytfmijoglolecgaa.A
/- What all laws' rows share: arguments that read are data. -/
namespace Go.Proofs.Ytfmijoglolecgaa.A
open Go
theorem shaped_int {P : Program} {d : Nat} {t : TypeId} {xs : List AV} (hu : P.underlying t = some (.int .i64)) (h : Shaped P d t xs) : ∃ n, xs = [.int .i64 n] := by
  cases d with
  | zero => exact h.elim
  | succ d =>
    unfold Shaped at h
    rw [hu] at h
    obtain ⟨n, e, _⟩ := h
    exact ⟨n, e⟩
theorem ints_of {P : Program} {d : Nat} {t : TypeId} (hu : P.underlying t = some (.int .i64)) : ∀ parts : List (List AV), (∀ p ∈ parts, Shaped P d t p) → ∃ ns : List Int, parts.length = ns.length ∧ parts.flatten = cI ns
  | [], _ => ⟨[], rfl, rfl⟩
  | p :: parts, h => by
    obtain ⟨n, rfl⟩ := shaped_int hu (h p (List.mem_cons_self ..))
    obtain ⟨ns, h1, h2⟩ := ints_of hu parts (fun q hq => h q (List.mem_cons_of_mem _ hq))
    exact ⟨n :: ns, by simp [h1], by simp [cI, h2]⟩
theorem arg_ints {P : Program} {t e : TypeId} {x : AV} (hu : P.underlying t = some (.slice e)) (he : P.underlying e = some (.int .i64)) (h : ArgOf P t x) : ∃ ns : List Int, x = slI ns ∧ ns.length ≤ maxLen := by
  unfold ArgOf at h
  rw [hu] at h
  obtain ⟨d, h⟩ := h
  cases d with
  | zero => exact h.elim
  | succ d =>
    unfold Shaped at h
    rw [hu] at h
    obtain ⟨parts, e1, hle, h2⟩ := h
    injection e1 with e1 _
    obtain ⟨ns, h3, h4⟩ := ints_of he parts h2
    exact ⟨ns, by rw [e1, h3, h4], by omega⟩
theorem arg_bool {P : Program} {t : TypeId} {x : AV} (hu : P.underlying t = some .bool) (h : ArgOf P t x) : ∃ b, x = .bool b := by
  unfold ArgOf at h
  rw [hu] at h
  obtain ⟨d, h⟩ := h
  cases d with
  | zero => exact h.elim
  | succ d =>
    unfold Shaped at h
    rw [hu] at h
    obtain ⟨n, e⟩ := h
    injection e with e _
    exact ⟨n, e⟩
end Go.Proofs.Ytfmijoglolecgaa.A
namespace Go.Proofs.Ytfmijoglolecgaa
open Go Go.Proofs.Ytfmijoglolecgaa.A
theorem Try.own : ownKnob Try.prog.godebug = none := by kernel_rfl
theorem Try.laidOut : laidOutB Try.prog = true := by kernel_rfl
end Go.Proofs.Ytfmijoglolecgaa
/- Arguments that read are data: parts, fields; machines of one way. -/
namespace Go.Proofs.Ytfmijoglolecgaa.A
open Go
set_option maxRecDepth 20000
theorem shaped_fields {P : Program} {d : Nat} {t : TypeId} {fs : Array Field} (hu : P.underlying t = some (.struct fs)) {xs : List AV} (h : Shaped P d t xs) : ∃ (d' : Nat) (parts : List (List AV)), xs = parts.flatten ∧ parts.length = fs.toList.length ∧ ∀ (i : Nat) (f : Field) (p : List AV), fs.toList[i]? = some f → parts[i]? = some p → Shaped P d' f.type p := by
  cases d with
  | zero => exact h.elim
  | succ d =>
    unfold Shaped at h
    rw [hu] at h
    obtain ⟨parts, h1, h2, h3⟩ := h
    exact ⟨d, parts, h1, by simpa using h2, fun i f p hf hp => h3 i f p (by simpa using hf) hp⟩
theorem shaped_slice {P : Program} {d : Nat} {t e : TypeId} (hu : P.underlying t = some (.slice e)) {xs : List AV} (h : Shaped P d t xs) : ∃ (d' : Nat) (parts : List (List AV)), xs = [.sl parts.length parts.flatten] ∧ parts.length ≤ maxLen ∧ ∀ p ∈ parts, Shaped P d' e p := by
  cases d with
  | zero => exact h.elim
  | succ d =>
    unfold Shaped at h
    rw [hu] at h
    obtain ⟨parts, h1, h2, h3⟩ := h
    exact ⟨d, parts, h1, h2, h3⟩
noncomputable def fieldsOf (t : TypeId) : Array Field := match Try.prog.underlying t with | some (.struct fs) => fs | _ => #[]
theorem shaped_bool {P : Program} {d : Nat} {t : TypeId} {xs : List AV} (hu : P.underlying t = some .bool) (h : Shaped P d t xs) : ∃ b, xs = [.bool b] := by
  cases d with
  | zero => exact h.elim
  | succ d =>
    unfold Shaped at h
    rw [hu] at h
    exact h
theorem shaped_arr {P : Program} {d : Nat} {t i : TypeId} {n : Nat} (hu : P.underlying t = some (.array n i)) (hi : P.underlying i = some (.int .i64)) {xs : List AV} (h : Shaped P d t xs) : ∃ l : List Int, l.length = n ∧ xs = cI l := by
  cases d with
  | zero => exact h.elim
  | succ d =>
    unfold Shaped at h
    rw [hu] at h
    obtain ⟨parts, rfl, hl, hp⟩ := h
    obtain ⟨ns, h3, h4⟩ := ints_of hi parts hp
    exact ⟨ns, by rw [← h3]; simpa using hl, h4⟩
theorem parts_I {n : Nat} : ∀ {parts : List (List AV)}, (∀ p ∈ parts, ∃ l : List Int, l.length = n ∧ p = cI l) → ∃ N : List Int, N.length = n * parts.length ∧ parts.flatten = cI N
  | [], _ => ⟨[], rfl, rfl⟩
  | p :: parts, h => by
    obtain ⟨l, h0, rfl⟩ := h p (List.mem_cons_self ..)
    obtain ⟨N, h1, h2⟩ := parts_I (fun q hq => h q (List.mem_cons_of_mem _ hq))
    exact ⟨l ++ N, by rw [List.length_append, h0, h1, List.length_cons, Nat.mul_succ, Nat.add_comm], by rw [cI_app, List.flatten_cons, h2]⟩
theorem parts_B : ∀ {parts : List (List AV)}, (∀ p ∈ parts, ∃ b, p = [AV.bool b]) → ∃ A : List Bool, A.length = parts.length ∧ parts.flatten = cB A
  | [], _ => ⟨[], rfl, rfl⟩
  | p :: parts, h => by
    obtain ⟨b, rfl⟩ := h p (List.mem_cons_self ..)
    obtain ⟨A, h1, h2⟩ := parts_B (fun q hq => h q (List.mem_cons_of_mem _ hq))
    exact ⟨b :: A, by simp [h1], by simp [cB, h2]⟩
end Go.Proofs.Ytfmijoglolecgaa.A
/- Arguments that read are data: machines, raw expressions. -/
namespace Go.Proofs.Ytfmijoglolecgaa.A
open Go
set_option maxRecDepth 20000
/-! ### a machine that came in -/
theorem shaped_three {P : Program} {d : Nat} {t i : TypeId} {fs : Array Field} (hu : P.underlying t = some (.struct fs)) (hf : fs.toList.map (·.type) = [i, i, i]) (hi : P.underlying i = some (.int .i64)) {xs : List AV} (h : Shaped P d t xs) : ∃ a b c, xs = [.int .i64 a, .int .i64 b, .int .i64 c] := by
  obtain ⟨d', parts, rfl, hl, hp⟩ := shaped_fields hu h
  have hl3 : fs.toList.length = 3 := by have := congrArg List.length hf; simpa using this
  match hfs : fs.toList, hl3 with
  | [f1, f2, f3], _ =>
    rw [hfs] at hl hp hf
    simp only [List.map_cons, List.map_nil, List.cons.injEq, and_true] at hf
    obtain ⟨e1, e2, e3⟩ := hf
    match parts, hl with
    | [p1, p2, p3], _ =>
      obtain ⟨a, rfl⟩ := shaped_int hi (e1 ▸ hp 0 f1 p1 rfl rfl)
      obtain ⟨b, rfl⟩ := shaped_int hi (e2 ▸ hp 1 f2 p2 rfl rfl)
      obtain ⟨c, rfl⟩ := shaped_int hi (e3 ▸ hp 2 f3 p3 rfl rfl)
      exact ⟨a, b, c, rfl⟩
theorem shaped_two {P : Program} {d : Nat} {t i : TypeId} (hu : P.underlying t = some (.array 2 i)) (hi : P.underlying i = some (.int .i64)) {xs : List AV} (h : Shaped P d t xs) : ∃ a b, xs = [.int .i64 a, .int .i64 b] := by
  cases d with
  | zero => exact h.elim
  | succ d =>
    unfold Shaped at h
    rw [hu] at h
    obtain ⟨parts, rfl, hl, hp⟩ := h
    match parts, hl with
    | [p1, p2], _ =>
      obtain ⟨a, rfl⟩ := shaped_int hi (hp p1 (by simp))
      obtain ⟨b, rfl⟩ := shaped_int hi (hp p2 (by simp))
      exact ⟨a, b, rfl⟩
theorem parts_S : ∀ {parts : List (List AV)}, (∀ p ∈ parts, ∃ a b c, p = [.int .i64 a, .int .i64 b, .int .i64 c]) → ∃ ss : List (Int × Int × Int), ss.length = parts.length ∧ parts.flatten = cS ss
  | [], _ => ⟨[], rfl, rfl⟩
  | p :: parts, h => by
    obtain ⟨a, b, c, rfl⟩ := h p (List.mem_cons_self ..)
    obtain ⟨ss, h1, h2⟩ := parts_S (fun q hq => h q (List.mem_cons_of_mem _ hq))
    exact ⟨(a, b, c) :: ss, by simp [h1], by simp [cS, h2]⟩
theorem parts_P : ∀ {parts : List (List AV)}, (∀ p ∈ parts, ∃ a b, p = [.int .i64 a, .int .i64 b]) → ∃ ss : List (Int × Int), ss.length = parts.length ∧ parts.flatten = cP ss
  | [], _ => ⟨[], rfl, rfl⟩
  | p :: parts, h => by
    obtain ⟨a, b, rfl⟩ := h p (List.mem_cons_self ..)
    obtain ⟨ss, h1, h2⟩ := parts_P (fun q hq => h q (List.mem_cons_of_mem _ hq))
    exact ⟨(a, b) :: ss, by simp [h1], by simp [cP, h2]⟩
/-! ### raw expressions that came in -/
theorem shaped_slice' {P : Program} {d : Nat} {t e : TypeId} (hu : P.underlying t = some (.slice e)) {xs : List AV} (h : Shaped P d t xs) : ∃ (d' : Nat) (parts : List (List AV)), d' < d ∧ xs = [.sl parts.length parts.flatten] ∧ parts.length ≤ maxLen ∧ ∀ p ∈ parts, Shaped P d' e p := by
  cases d with
  | zero => exact h.elim
  | succ d =>
    unfold Shaped at h
    rw [hu] at h
    obtain ⟨parts, h1, h2, h3⟩ := h
    exact ⟨d, parts, Nat.lt_succ_self d, h1, h2, h3⟩
theorem shaped_fields' {P : Program} {d : Nat} {t : TypeId} {fs : Array Field} (hu : P.underlying t = some (.struct fs)) {xs : List AV} (h : Shaped P d t xs) : ∃ (d' : Nat) (parts : List (List AV)), d' < d ∧ xs = parts.flatten ∧ parts.length = fs.toList.length ∧ ∀ (i : Nat) (f : Field) (p : List AV), fs.toList[i]? = some f → parts[i]? = some p → Shaped P d' f.type p := by
  cases d with
  | zero => exact h.elim
  | succ d =>
    unfold Shaped at h
    rw [hu] at h
    obtain ⟨parts, h1, h2, h3⟩ := h
    exact ⟨d, parts, Nat.lt_succ_self d, h1, by simpa using h2, fun i f p hf hp => h3 i f p (by simpa using hf) hp⟩
theorem parts_R : ∀ {parts : List (List AV)}, (∀ p ∈ parts, ∃ r, p = cRw r) → ∃ l : List Rw, l.length = parts.length ∧ parts.flatten = cRws l
  | [], _ => ⟨[], rfl, by rw [cRws_nil]; rfl⟩
  | p :: parts, h => by
    obtain ⟨r, rfl⟩ := h p (List.mem_cons_self ..)
    obtain ⟨l, h1, h2⟩ := parts_R (fun q hq => h q (List.mem_cons_of_mem _ hq))
    exact ⟨r :: l, by simp [h1], by rw [cRws_cons, List.flatten_cons, h2]⟩
theorem shaped_raw : ∀ (d : Nat) (xs : List AV), Shaped Try.prog d 45 xs → ∃ r, xs = cRw r := by
  have hu : Try.prog.underlying 45 = some (.struct (fieldsOf 45)) := by kernel_rfl
  have hi : Try.prog.underlying 3 = some (.int .i64) := by kernel_rfl
  have hf : (fieldsOf 45).toList.map (·.type) = [3, 3, 22] := by kernel_rfl
  have hsl : Try.prog.underlying 22 = some (.slice 45) := by kernel_rfl
  intro d
  induction d using Nat.strongRecOn with
  | ind d ih =>
    intro xs h
    obtain ⟨d', parts, hd, rfl, hl, hp⟩ := shaped_fields' hu h
    generalize fieldsOf 45 = fl at *
    have hl3 : fl.toList.length = 3 := by have := congrArg List.length hf; simpa using this
    match hfl : fl.toList, hl3 with
    | [f1, f2, f3], _ =>
      rw [hfl] at hl hp hf
      simp only [List.map_cons, List.map_nil, List.cons.injEq, and_true] at hf
      obtain ⟨e1, e2, e3⟩ := hf
      match parts, hl with
      | [p1, p2, p3], _ =>
        obtain ⟨a, rfl⟩ := shaped_int hi (e1 ▸ hp 0 f1 p1 rfl rfl)
        obtain ⟨b, rfl⟩ := shaped_int hi (e2 ▸ hp 1 f2 p2 rfl rfl)
        obtain ⟨d4, q4, hd4, rfl, _, h4⟩ := shaped_slice' hsl (e3 ▸ hp 2 f3 p3 rfl rfl)
        obtain ⟨l, s1, s2⟩ := parts_R (fun p hp => ih d4 (by omega) p (h4 p hp))
        exact ⟨.mk a b l, by rw [cRw_mk, slR, s1, s2.symm]; rfl⟩
theorem arg_raws {x : AV} (h : ArgOf Try.prog 22 x) : ∃ l, x = slR l := by
  have hsl : Try.prog.underlying 22 = some (.slice 45) := by kernel_rfl
  unfold ArgOf at h
  rw [hsl] at h
  obtain ⟨d, h⟩ := h
  obtain ⟨d4, q4, _, e, _, h4⟩ := shaped_slice' hsl h
  obtain ⟨l, s1, s2⟩ := parts_R (fun p hp => shaped_raw d4 p (h4 p hp))
  injection e with e _
  exact ⟨l, by rw [e, slR, s1, s2]⟩
end Go.Proofs.Ytfmijoglolecgaa.A
/- law6's 'known' answers true: one run by the kernel. -/
namespace Go.Proofs.Ytfmijoglolecgaa.A
open Go
/-- Which functions are called on data alone, in a run that is closed. -/
def mode0 (f : FuncId) : Mode := if f ∈ [7, 12, 18, 19] then .pure false else if f ∈ [11, 9, 22] then .pure true else .raw true
noncomputable def E0 : Env := { P := Try.prog, mode := mode0, ext := fun _ _ => none }
def nz0 : Nat → Option (List (Nat × Nat)) := fun _ => none
noncomputable def cr0 : CallR := (calls E0 60).2
theorem cr0_sound : CRSound Try.prog cr0 := (calls_sound E0 (tab_nil _) mixed 60).2
theorem cr0_up : Up cr0 := calls_nx E0 60
abbrev noP : CallP := fun _ _ => none

theorem known_run : (calls E0 60).1 4 [] = some (.bool true) := by kernel_rfl
theorem known_ok : Ok Try.prog 4 [] (.bool true) := ok_calls (E := E0) (tab_nil _) mixed known_run

end Go.Proofs.Ytfmijoglolecgaa.A
