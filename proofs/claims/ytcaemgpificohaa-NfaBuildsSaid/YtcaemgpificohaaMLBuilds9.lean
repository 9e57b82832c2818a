/- The document's builder: repeat. -/
import Derived.Test.YtcaemgpificohaaMLBuilds1
import Derived.Test.YtcaemgpificohaaMLBuilds2
import Derived.Test.YtcaemgpificohaaMLBuilds3
import Derived.Test.YtcaemgpificohaaMLBuilds4
import Derived.Test.YtcaemgpificohaaMLBuilds5
import Derived.Test.YtcaemgpificohaaMLBuilds6
import Derived.Test.YtcaemgpificohaaMLBuilds7
import Derived.Test.YtcaemgpificohaaMLBuilds8
set_option linter.unusedVariables false
set_option linter.unusedSimpArgs false
set_option linter.unnecessarySimpa false
namespace Go.Proofs.Ytcaemgpificohaa.A
open Go
set_option maxRecDepth 20000
/-- Whole numbers in a row of slot D. -/
def IAt (D : Nat) (o : Ob) (nx : Nat) (v : AV) (l : List Int) : Prop := HS 3 1 D o nx v l.length (cI l)
theorem IAt.keep {D o nx v l} (h : IAt D o nx v l) {t o' nx'} (hk : QKeep t o nx o') (h8 : D ≠ 8) (h29 : D ≠ 29) (h16 : D ≠ 16) (hn : nx ≤ nx') : IAt D o' nx' v l := HS.keep h (fun i hi => hk i D hi (fun e => absurd e h8) h29 h16) hn
theorem IAt.slot {D o nx v l} (h : IAt D o nx v l) {o' : Ob} {nx' : Nat} (ho : ∀ i, o' (i, D) = o (i, D)) (hn : nx ≤ nx') : IAt D o' nx' v l := HS.keep h (fun i _ => ho i) hn
theorem IAt.same {D o nx v l l'} (h : IAt D o nx v l) (h' : IAt D o nx v l') : l = l' := cI_inj (HS.same h h')
abbrev fstL (p : List (Int × Int)) : List Int := p.map (·.1)
abbrev sndL (p : List (Int × Int)) : List Int := p.map (·.2)
theorem fst_get {p : List (Int × Int)} {i : Nat} (h : i < p.length) : take1 false 1 ((cI (fstL p)).drop i) = some (.int .i64 (p.getD i (0, 0)).1) := by
  rw [cI_get (by simpa using h)]; simp [List.getD, h]
theorem snd_get {p : List (Int × Int)} {i : Nat} (h : i < p.length) : take1 false 1 ((cI (sndL p)).drop i) = some (.int .i64 (p.getD i (0, 0)).2) := by
  rw [cI_get (by simpa using h)]; simp [List.getD, h]
theorem pairs_eq : ∀ {p q : List (Int × Int)}, fstL p = fstL q → sndL p = sndL q → p = q
  | [], [], _, _ => rfl
  | [], _ :: _, h, _ => by cases h
  | _ :: _, [], h, _ => by cases h
  | (a, b) :: p, (c, d) :: q, h1, h2 => by
    simp only [fstL, sndL, List.map_cons, List.cons.injEq] at h1 h2
    rw [pairs_eq h1.2 h2.2, h1.1, h2.1]
def repL (lo : Int) (s e : Int) (p : List (Int × Int)) : List (Int × Int) := headL s p ++ rLinks lo e 0 p ++ (if lo = 0 then [(s, e)] else [])
def QRep (args : List AV) (H : AH) (v : AV) (H' : AH) : Prop := OkR Try.prog 64 args H v H' ∧ ∀ t b kind set lo hi l s e vf vt p, args = [bp t, nodeV (.mk kind set lo hi l), .int .i64 s, .int .i64 e, vf, vt] → IAt 70 H.o H.nx vf (fstL p) → IAt 74 H.o H.nx vt (sndL p) → QAt H.o H.nx t b false → v = .tup [] ∧ QTo t (b.frees (repL lo s e p)) false H H'
theorem lookQRep (X) : lookedAt (EX md0 X) (fun _ => none) 6 Try.f64 = true := by kernel_rfl
theorem crQRep_ok : CRSound Try.prog (tabLookR [(63, cRel QFree)]) ∧ Up (tabLookR [(63, cRel QFree)]) :=
  tabR_cons (tabR_nil _) fun args H v H' h => (cRel_some h).1
theorem qrep_loop {cr : CallR} (hF : cr 63 = cRel QFree) {kind set lo hi s e : Int} {l : List Nd} {t r : Nat} {o0 : Ob} {nx0 : Nat} {T b : BS} {p : List (Int × Int)} {vf vt : AV} {a : AAct} {o : Ob} {nx : Nat} {Q : WPost} (hlo : 0 ≤ lo ∧ lo ≤ 10) (hlen : p.length ≤ 10) (hr : nx0 ≤ r) (hrn : r < nx) (hnx : nx0 ≤ nx) (hB : QAt o nx t b false) (hT : b.frees (rLinks lo e 0 p) = T) (hbf : b.f.length ≤ 1000000) (hf : IAt 70 o nx vf (fstL p)) (ht : IAt 74 o nx vt (sndL p)) (ho7 : o (r, 7) = some (.row ⟨34, 1, (r, 7), false, true, [.int .i64 kind, .int .i64 set, .int .i64 lo, .int .i64 hi, slN l]⟩)) (h12 : a 12 = .int .i64 0)
    (hmore : a 0 = bp t ∧ a 2 = .int .i64 s ∧ a 3 = .int .i64 e ∧ a 4 = vf ∧ a 5 = vt ∧ a 7 = .ptr (r, 7) (r, 7) 0 ∧ QKeep t o0 nx0 o)
    (hQ : ∀ a o nx, nx0 ≤ nx → r < nx → o (r, 7) = some (.row ⟨34, 1, (r, 7), false, true, [.int .i64 kind, .int .i64 set, .int .i64 lo, .int .i64 hi, slN l]⟩) → QAt o nx t T false → a 0 = bp t → a 2 = .int .i64 s → a 3 = .int .i64 e → a 7 = .ptr (r, 7) (r, 7) 0 → QKeep t o0 nx0 o → Q .normal a o nx) :
    WP (EX md0 (fun _ _ => none)) cr 30 (fun _ => none) (pathC [1, 1, 0, 1, 0] (Try.f64.body.getD .skip)) a o nx (blockQ 0 Q) := by
  simp only [Try.f64, Option.getD_some, pathC]
  refine WP_loop (fun m a o nx => ∃ (i : Nat) (b : BS), i ≤ p.length ∧ m = p.length - i ∧ nx0 ≤ nx ∧ r < nx ∧ QAt o nx t b false ∧ b.frees (rLinks lo e i (p.drop i)) = T ∧ b.f.length ≤ 1000000 + 2 * i ∧ IAt 70 o nx vf (fstL p) ∧ IAt 74 o nx vt (sndL p) ∧ o (r, 7) = some (.row ⟨34, 1, (r, 7), false, true, [.int .i64 kind, .int .i64 set, .int .i64 lo, .int .i64 hi, slN l]⟩) ∧ a 12 = .int .i64 i ∧ a 0 = bp t ∧ a 2 = .int .i64 s ∧ a 3 = .int .i64 e ∧ a 4 = vf ∧ a 5 = vt ∧ a 7 = .ptr (r, 7) (r, 7) 0 ∧ QKeep t o0 nx0 o) p.length (by omega) ⟨0, b, by omega, by omega, hnx, hrn, hB, hT, by omega, hf, ht, ho7, h12, hmore⟩ ?_
  clear hmore h12 ho7 hB hT hbf hf ht hrn hnx
  rintro m a o nx ⟨i, b, hi, rfl, hnx, hrn, hB, hT, hbf, hf, ht, ho7, h12, h0, h2, h3, h4, h5, h7, hkp⟩
  by_cases hlt : i < p.length
  · have hf' := hf
    have ht' := ht
    rcases hf with ⟨_, e1, _⟩ | ⟨i1, g1, rfl, hi1, hrow1, hlen1⟩
    · simp only [List.length_map] at e1; omega
    rcases ht with ⟨_, e1, _⟩ | ⟨i2, g2, rfl, hi2, hrow2, hlen2⟩
    · simp only [List.length_map] at e1; omega
    simp only [List.length_map] at h4 h5
    have g0 := snd_get hlt
    by_cases hl : i + 1 = p.length
    · have hl' : ((i : Int) = (p.length : Int) - 1) = True := eq_true (by omega)
      obtain ⟨q1, q2⟩ := rLinks_last (lo := lo) (e := e) hl
      rw [q1, frees_cons, frees_nil] at hT
      simp (disch := omega) only [go_sem, ↓IntWalk.iteOmega, IntWalk.toNatUp, Nat.reduceEqDiff, Nat.reduceAdd, Nat.reduceMul, Nat.reduceSub, Nat.reduceLT, Nat.reduceLeDiff, Int.reduceToNat, Int.reduceLT, Int.reduceLE, Int.reduceEq, Int.reduceAdd, Int.reduceSub, Int.reduceMul, Int.toNat_natCast, reduceCtorEq, decide_true, decide_false, IntWalk.i64_in, IntWalk.u64_in, IntWalk.u8_in, h0, h2, h3, h4, h5, h7, h12, hrow1, hrow2, g0, hF, hl']
      refine qfree_call (hB.new (fun _ _ _ => rfl) (by omega)) _ _ (by omega) ?_
      intro o1 nx1 hle1 hB1 hk1
      have k1 : QKeep t o nx o1 := fun i j (hi : i < nx) => hk1 i j (by omega)
      simp (disch := omega) only [go_sem, ↓IntWalk.iteOmega, IntWalk.toNatUp, Nat.reduceEqDiff, Nat.reduceAdd, Nat.reduceMul, Nat.reduceSub, Nat.reduceLT, Nat.reduceLeDiff, Int.reduceToNat, Int.reduceLT, Int.reduceLE, Int.reduceEq, Int.reduceAdd, Int.reduceSub, Int.reduceMul, Int.toNat_natCast, reduceCtorEq, decide_true, decide_false, IntWalk.i64_in, IntWalk.u64_in, IntWalk.u8_in, h0, h2, h3, h4, h5, h7, h12, hF, hl']
      refine ⟨_, ?_, i + 1, _, by omega, rfl, by omega, by omega, hB1.new (fun _ _ _ => rfl) (by omega), ?_, by simp only [BS.free_f, List.length_append, List.length_cons, List.length_nil]; omega, hf'.keep k1 (by decide) (by decide) (by decide) (by omega), ht'.keep k1 (by decide) (by decide) (by decide) (by omega), k1.row ho7 hrn (fun e => absurd e (by decide)) (by decide) (by decide), rfl, by simp, by simp, hkp.trans k1 hnx⟩
      · omega
      · rw [q2, rLinks, frees_nil, hT]
    · have hl' : ¬ (i : Int) = (p.length : Int) - 1 := by omega
      have g1' := fst_get (show i + 1 < p.length by omega)
      have q1 := rLinks_next (lo := lo) (e := e) (show i + 1 < p.length by omega)
      by_cases hlo' : (i : Int) + 1 ≥ lo
      · rw [q1, if_pos hlo', List.singleton_append, frees_cons, frees_cons] at hT
        simp (disch := omega) only [go_sem, ↓IntWalk.iteOmega, IntWalk.toNatUp, Nat.reduceEqDiff, Nat.reduceAdd, Nat.reduceMul, Nat.reduceSub, Nat.reduceLT, Nat.reduceLeDiff, Int.reduceToNat, Int.reduceLT, Int.reduceLE, Int.reduceEq, Int.reduceAdd, Int.reduceSub, Int.reduceMul, Int.toNat_natCast, reduceCtorEq, decide_true, decide_false, IntWalk.i64_in, IntWalk.u64_in, IntWalk.u8_in, h0, h2, h3, h4, h5, h7, h12, ho7, hrow1, hrow2, g0, hF, hl', hlo']
        refine qfree_call (hB.new (fun _ _ _ => rfl) (by omega)) _ _ (by omega) ?_
        intro o1 nx1 hle1 hB1 hk1
        have k1 : QKeep t o nx o1 := fun i j (hi : i < nx) => hk1 i j (by omega)
        have hr1 := k1.row hrow1 hi1 (fun e => absurd e (by decide)) (by decide) (by decide)
        have hr2 := k1.row hrow2 hi2 (fun e => absurd e (by decide)) (by decide) (by decide)
        simp (disch := omega) only [go_sem, ↓IntWalk.iteOmega, IntWalk.toNatUp, Nat.reduceEqDiff, Nat.reduceAdd, Nat.reduceMul, Nat.reduceSub, Nat.reduceLT, Nat.reduceLeDiff, Int.reduceToNat, Int.reduceLT, Int.reduceLE, Int.reduceEq, Int.reduceAdd, Int.reduceSub, Int.reduceMul, Int.toNat_natCast, reduceCtorEq, decide_true, decide_false, IntWalk.i64_in, IntWalk.u64_in, IntWalk.u8_in, h0, h2, h3, h4, h5, h7, h12, hr1, hr2, g0, g1', hF, hl']
        refine qfree_call (hB1.new (fun _ _ _ => rfl) (by omega)) _ _ (by simp only [BS.free_f, List.length_append, List.length_cons, List.length_nil]; omega) ?_
        intro o2 nx2 hle2 hB2 hk2
        have k2 : QKeep t o nx o2 := k1.trans (fun i j (hi : i < nx1) => hk2 i j (by omega)) (by omega)
        simp (disch := omega) only [go_sem, ↓IntWalk.iteOmega, IntWalk.toNatUp, Nat.reduceEqDiff, Nat.reduceAdd, Nat.reduceMul, Nat.reduceSub, Nat.reduceLT, Nat.reduceLeDiff, Int.reduceToNat, Int.reduceLT, Int.reduceLE, Int.reduceEq, Int.reduceAdd, Int.reduceSub, Int.reduceMul, Int.toNat_natCast, reduceCtorEq, decide_true, decide_false, IntWalk.i64_in, IntWalk.u64_in, IntWalk.u8_in, h0, h2, h3, h4, h5, h7, h12, hF, hl']
        refine ⟨_, ?_, i + 1, _, by omega, rfl, by omega, by omega, hB2.new (fun _ _ _ => rfl) (by omega), hT, by simp only [BS.free_f, List.length_append, List.length_cons, List.length_nil]; omega, hf'.keep k2 (by decide) (by decide) (by decide) (by omega), ht'.keep k2 (by decide) (by decide) (by decide) (by omega), k2.row ho7 hrn (fun e => absurd e (by decide)) (by decide) (by decide), rfl, by simp, by simp, hkp.trans k2 hnx⟩
        omega
      · rw [q1, if_neg hlo', List.nil_append, frees_cons] at hT
        simp (disch := omega) only [go_sem, ↓IntWalk.iteOmega, IntWalk.toNatUp, Nat.reduceEqDiff, Nat.reduceAdd, Nat.reduceMul, Nat.reduceSub, Nat.reduceLT, Nat.reduceLeDiff, Int.reduceToNat, Int.reduceLT, Int.reduceLE, Int.reduceEq, Int.reduceAdd, Int.reduceSub, Int.reduceMul, Int.toNat_natCast, reduceCtorEq, decide_true, decide_false, IntWalk.i64_in, IntWalk.u64_in, IntWalk.u8_in, h0, h2, h3, h4, h5, h7, h12, ho7, hrow1, hrow2, g0, g1', hF, hl', hlo']
        refine qfree_call (hB.new (fun _ _ _ => rfl) (by omega)) _ _ (by omega) ?_
        intro o1 nx1 hle1 hB1 hk1
        have k1 : QKeep t o nx o1 := fun i j (hi : i < nx) => hk1 i j (by omega)
        simp (disch := omega) only [go_sem, ↓IntWalk.iteOmega, IntWalk.toNatUp, Nat.reduceEqDiff, Nat.reduceAdd, Nat.reduceMul, Nat.reduceSub, Nat.reduceLT, Nat.reduceLeDiff, Int.reduceToNat, Int.reduceLT, Int.reduceLE, Int.reduceEq, Int.reduceAdd, Int.reduceSub, Int.reduceMul, Int.toNat_natCast, reduceCtorEq, decide_true, decide_false, IntWalk.i64_in, IntWalk.u64_in, IntWalk.u8_in, h0, h2, h3, h4, h5, h7, h12, hF, hl']
        refine ⟨_, ?_, i + 1, _, by omega, rfl, by omega, by omega, hB1.new (fun _ _ _ => rfl) (by omega), hT, by simp only [BS.free_f, List.length_append, List.length_cons, List.length_nil]; omega, hf'.keep k1 (by decide) (by decide) (by decide) (by omega), ht'.keep k1 (by decide) (by decide) (by decide) (by omega), k1.row ho7 hrn (fun e => absurd e (by decide)) (by decide) (by decide), rfl, by simp, by simp, hkp.trans k1 hnx⟩
        omega
  · have hf' := hf
    rw [List.drop_of_length_le (by omega), rLinks, frees_nil] at hT
    rcases hf with ⟨rfl, e1, _⟩ | ⟨i1, g1, rfl, hi1, hrow1, hlen1⟩
    · have hz : ¬ (i : Int) < 0 := by omega
      simp (disch := omega) only [go_sem, ↓IntWalk.iteOmega, IntWalk.toNatUp, Nat.reduceEqDiff, Nat.reduceAdd, Nat.reduceMul, Nat.reduceSub, Nat.reduceLT, Nat.reduceLeDiff, Int.reduceToNat, Int.reduceLT, Int.reduceLE, Int.reduceEq, Int.reduceAdd, Int.reduceSub, Int.reduceMul, Int.toNat_natCast, reduceCtorEq, decide_true, decide_false, IntWalk.i64_in, IntWalk.u64_in, IntWalk.u8_in, h0, h2, h3, h4, h5, h7, h12, hz]
      exact hQ _ _ _ (by omega) (by omega) ho7 (hT ▸ hB.new (fun _ _ _ => rfl) (by omega)) (by simp (disch := omega) only [go_sem, ↓IntWalk.iteOmega, IntWalk.toNatUp, Nat.reduceEqDiff, Nat.reduceAdd, Nat.reduceMul, Nat.reduceSub, Nat.reduceLT, Nat.reduceLeDiff, Int.reduceToNat, Int.reduceLT, Int.reduceLE, Int.reduceEq, Int.reduceAdd, Int.reduceSub, Int.reduceMul, Int.toNat_natCast, reduceCtorEq, decide_true, decide_false, IntWalk.i64_in, IntWalk.u64_in, IntWalk.u8_in, h0]) (by simp (disch := omega) only [go_sem, ↓IntWalk.iteOmega, IntWalk.toNatUp, Nat.reduceEqDiff, Nat.reduceAdd, Nat.reduceMul, Nat.reduceSub, Nat.reduceLT, Nat.reduceLeDiff, Int.reduceToNat, Int.reduceLT, Int.reduceLE, Int.reduceEq, Int.reduceAdd, Int.reduceSub, Int.reduceMul, Int.toNat_natCast, reduceCtorEq, decide_true, decide_false, IntWalk.i64_in, IntWalk.u64_in, IntWalk.u8_in, h2]) (by simp (disch := omega) only [go_sem, ↓IntWalk.iteOmega, IntWalk.toNatUp, Nat.reduceEqDiff, Nat.reduceAdd, Nat.reduceMul, Nat.reduceSub, Nat.reduceLT, Nat.reduceLeDiff, Int.reduceToNat, Int.reduceLT, Int.reduceLE, Int.reduceEq, Int.reduceAdd, Int.reduceSub, Int.reduceMul, Int.toNat_natCast, reduceCtorEq, decide_true, decide_false, IntWalk.i64_in, IntWalk.u64_in, IntWalk.u8_in, h3]) (by simp (disch := omega) only [go_sem, ↓IntWalk.iteOmega, IntWalk.toNatUp, Nat.reduceEqDiff, Nat.reduceAdd, Nat.reduceMul, Nat.reduceSub, Nat.reduceLT, Nat.reduceLeDiff, Int.reduceToNat, Int.reduceLT, Int.reduceLE, Int.reduceEq, Int.reduceAdd, Int.reduceSub, Int.reduceMul, Int.toNat_natCast, reduceCtorEq, decide_true, decide_false, IntWalk.i64_in, IntWalk.u64_in, IntWalk.u8_in, h7]) hkp
    · simp only [List.length_map] at h4
      simp (disch := omega) only [go_sem, ↓IntWalk.iteOmega, IntWalk.toNatUp, Nat.reduceEqDiff, Nat.reduceAdd, Nat.reduceMul, Nat.reduceSub, Nat.reduceLT, Nat.reduceLeDiff, Int.reduceToNat, Int.reduceLT, Int.reduceLE, Int.reduceEq, Int.reduceAdd, Int.reduceSub, Int.reduceMul, Int.toNat_natCast, reduceCtorEq, decide_true, decide_false, IntWalk.i64_in, IntWalk.u64_in, IntWalk.u8_in, h0, h2, h3, h4, h5, h7, h12]
      exact hQ _ _ _ (by omega) (by omega) ho7 (hT ▸ hB.new (fun _ _ _ => rfl) (by omega)) (by simp (disch := omega) only [go_sem, ↓IntWalk.iteOmega, IntWalk.toNatUp, Nat.reduceEqDiff, Nat.reduceAdd, Nat.reduceMul, Nat.reduceSub, Nat.reduceLT, Nat.reduceLeDiff, Int.reduceToNat, Int.reduceLT, Int.reduceLE, Int.reduceEq, Int.reduceAdd, Int.reduceSub, Int.reduceMul, Int.toNat_natCast, reduceCtorEq, decide_true, decide_false, IntWalk.i64_in, IntWalk.u64_in, IntWalk.u8_in, h0]) (by simp (disch := omega) only [go_sem, ↓IntWalk.iteOmega, IntWalk.toNatUp, Nat.reduceEqDiff, Nat.reduceAdd, Nat.reduceMul, Nat.reduceSub, Nat.reduceLT, Nat.reduceLeDiff, Int.reduceToNat, Int.reduceLT, Int.reduceLE, Int.reduceEq, Int.reduceAdd, Int.reduceSub, Int.reduceMul, Int.toNat_natCast, reduceCtorEq, decide_true, decide_false, IntWalk.i64_in, IntWalk.u64_in, IntWalk.u8_in, h2]) (by simp (disch := omega) only [go_sem, ↓IntWalk.iteOmega, IntWalk.toNatUp, Nat.reduceEqDiff, Nat.reduceAdd, Nat.reduceMul, Nat.reduceSub, Nat.reduceLT, Nat.reduceLeDiff, Int.reduceToNat, Int.reduceLT, Int.reduceLE, Int.reduceEq, Int.reduceAdd, Int.reduceSub, Int.reduceMul, Int.toNat_natCast, reduceCtorEq, decide_true, decide_false, IntWalk.i64_in, IntWalk.u64_in, IntWalk.u8_in, h3]) (by simp (disch := omega) only [go_sem, ↓IntWalk.iteOmega, IntWalk.toNatUp, Nat.reduceEqDiff, Nat.reduceAdd, Nat.reduceMul, Nat.reduceSub, Nat.reduceLT, Nat.reduceLeDiff, Int.reduceToNat, Int.reduceLT, Int.reduceLE, Int.reduceEq, Int.reduceAdd, Int.reduceSub, Int.reduceMul, Int.toNat_natCast, reduceCtorEq, decide_true, decide_false, IntWalk.i64_in, IntWalk.u64_in, IntWalk.u8_in, h7]) hkp
theorem qrep_ok {kind set lo hi s e : Int} {l : List Nd} {p : List (Int × Int)} {vf vt : AV} (hlo : 0 ≤ lo ∧ lo ≤ 10) (hlen : p.length ≤ 10) (hpi : 0 < hi ↔ 0 < p.length) {t : Nat} {o : Ob} {nx : Nat} {b : BS} (h : QAt o nx t b false) (hf : IAt 70 o nx vf (fstL p)) (ht : IAt 74 o nx vt (sndL p)) (hbf : b.f.length ≤ 900000) :
    ∃ v H', QRep [bp t, nodeV (.mk kind set lo hi l), .int .i64 s, .int .i64 e, vf, vt] ⟨o, nx⟩ v H' := by
  obtain ⟨cr, hcr⟩ : ∃ cr, cr = tabLookR [(63, cRel QFree)] := ⟨_, rfl⟩
  have hF : cr 63 = cRel QFree := by rw [hcr]; rfl
  obtain ⟨v, H', h1, h2⟩ := okR_of_WP (E := EX md0 (fun _ _ => none)) (cr := cr) (cp_none _) (hcr ▸ crQRep_ok) mixed (k := 30) (args := [bp t, nodeV (.mk kind set lo hi l), .int .i64 s, .int .i64 e, vf, vt]) (o := o) (nx := nx) (Post := fun v o' nx' => v = .tup [] ∧ QTo t (b.frees (repL lo s e p)) false ⟨o, nx⟩ ⟨o', nx'⟩) Try.func64 (lookQRep _) rfl (by
    clear hcr
    have hnew : ∀ y, ∀ i j, i < nx → upd o (nx, 7) y (i, j) = o (i, j) := fun y i j hi => by simp (disch := omega) only [upd_fst]
    have hsl : ∀ y, ∀ i j, j ≠ 7 → upd o (nx, 7) y (i, j) = o (i, j) := fun y i j hj => by simp [upd_app, hj]
    have htn : t < nx := by obtain ⟨vS, vF, h⟩ := h; exact h.lt
    have hbl : b.frees (repL lo s e p) = ((b.frees (headL s p)).frees (rLinks lo e 0 p)).frees (if lo = 0 then [(s, e)] else []) := by rw [repL, frees_app, frees_app]
    have fin : ∀ (Q : WPost) (a : AAct) (o' : Ob) (nx' : Nat), (∀ a o' nx', nx ≤ nx' → QAt o' nx' t (b.frees (repL lo s e p)) false → QKeep t o nx o' → Q .normal a o' nx') → nx ≤ nx' → nx < nx' → o' (nx, 7) = some (.row ⟨34, 1, (nx, 7), false, true, [.int .i64 kind, .int .i64 set, .int .i64 lo, .int .i64 hi, slN l]⟩) → QAt o' nx' t ((b.frees (headL s p)).frees (rLinks lo e 0 p)) false → a 0 = bp t → a 2 = .int .i64 s → a 3 = .int .i64 e → a 7 = .ptr (nx, 7) (nx, 7) 0 → QKeep t o nx o' → WP (EX md0 (fun _ _ => none)) cr 30 (fun _ => none) (pathC [1, 1, 1] (Try.f64.body.getD .skip)) a o' nx' Q := by
      intro Q a o' nx' hQ hnx hrn ho7 hB h0 h2 h3 h7 hk
      simp only [Try.f64, Option.getD_some, pathC]
      have hl2 : ((b.frees (headL s p)).frees (rLinks lo e 0 p)).f.length ≤ 1000000 := by
        have := rLinks_len lo e 0 p
        have h1 : (headL s p).length ≤ 1 := by unfold headL; split <;> simp
        show ((b.f ++ _) ++ _).length ≤ _
        simp only [List.length_append]; omega
      by_cases hz : lo = 0
      · rw [hbl, if_pos hz, frees_cons, frees_nil] at hQ
        simp (disch := omega) only [go_sem, ↓IntWalk.iteOmega, IntWalk.toNatUp, Nat.reduceEqDiff, Nat.reduceAdd, Nat.reduceMul, Nat.reduceSub, Nat.reduceLT, Nat.reduceLeDiff, Int.reduceToNat, Int.reduceLT, Int.reduceLE, Int.reduceEq, Int.reduceAdd, Int.reduceSub, Int.reduceMul, Int.toNat_natCast, reduceCtorEq, decide_true, decide_false, IntWalk.i64_in, IntWalk.u64_in, IntWalk.u8_in, h0, h2, h3, h7, ho7, hF, hz]
        refine qfree_call (hB.new (fun _ _ _ => rfl) (by omega)) _ _ (by omega) ?_
        intro o1 nx1 hle1 hB1 hk1
        simp (disch := omega) only [go_sem, ↓IntWalk.iteOmega, IntWalk.toNatUp, Nat.reduceEqDiff, Nat.reduceAdd, Nat.reduceMul, Nat.reduceSub, Nat.reduceLT, Nat.reduceLeDiff, Int.reduceToNat, Int.reduceLT, Int.reduceLE, Int.reduceEq, Int.reduceAdd, Int.reduceSub, Int.reduceMul, Int.toNat_natCast, reduceCtorEq, decide_true, decide_false, IntWalk.i64_in, IntWalk.u64_in, IntWalk.u8_in]
        exact hQ _ _ _ (by omega) hB1 (hk.trans (fun i j (hi : i < nx') => hk1 i j (by omega)) hnx)
      · rw [hbl, if_neg hz, frees_nil] at hQ
        simp (disch := omega) only [go_sem, ↓IntWalk.iteOmega, IntWalk.toNatUp, Nat.reduceEqDiff, Nat.reduceAdd, Nat.reduceMul, Nat.reduceSub, Nat.reduceLT, Nat.reduceLeDiff, Int.reduceToNat, Int.reduceLT, Int.reduceLE, Int.reduceEq, Int.reduceAdd, Int.reduceSub, Int.reduceMul, Int.toNat_natCast, reduceCtorEq, decide_true, decide_false, IntWalk.i64_in, IntWalk.u64_in, IntWalk.u8_in, h0, h2, h3, h7, ho7, hF, hz]
        exact hQ _ _ _ (by omega) (hB.new (fun _ _ _ => rfl) (by omega)) hk
    have loop : ∀ (Q : WPost) (b1 : BS) (a : AAct) (o' : Ob) (nx' : Nat), b1 = b.frees (headL s p) → (∀ a o' nx', nx ≤ nx' → QAt o' nx' t (b.frees (repL lo s e p)) false → QKeep t o nx o' → Q .normal a o' nx') → nx < nx' → o' (nx, 7) = some (.row ⟨34, 1, (nx, 7), false, true, [.int .i64 kind, .int .i64 set, .int .i64 lo, .int .i64 hi, slN l]⟩) → QAt o' nx' t b1 false → IAt 70 o' nx' vf (fstL p) → IAt 74 o' nx' vt (sndL p) → a 0 = bp t → a 2 = .int .i64 s → a 3 = .int .i64 e → a 4 = vf → a 5 = vt → a 7 = .ptr (nx, 7) (nx, 7) 0 → a 12 = .int .i64 0 → QKeep t o nx o' → WP (EX md0 (fun _ _ => none)) cr 30 (fun _ => none) (pathC [1, 1, 0, 1, 0] (Try.f64.body.getD .skip)) a o' nx' (blockQ 0 (thenQ (EX md0 (fun _ _ => none)) cr 30 (fun _ => none) (pathC [1, 1, 1] (Try.f64.body.getD .skip)) Q)) := by
      intro Q b1 a o' nx' hb1 hQ hrn ho7 hB hf ht h0 h2 h3 h4 h5 h7 h12 hk
      have h1 : (headL s p).length ≤ 1 := by unfold headL; split <;> simp
      refine qrep_loop hF hlo hlen (Nat.le_refl nx) hrn (by omega) hB rfl (by rw [hb1]; show (b.f ++ _).length ≤ _; rw [List.length_append]; omega) hf ht ho7 h12 ⟨h0, h2, h3, h4, h5, h7, hk⟩ ?_
      intro a o' nx' hnx hrn ho7 hB h0 h2 h3 h7 hk
      rw [hb1] at hB
      exact fin Q a o' nx' hQ hnx hrn ho7 hB h0 h2 h3 h7 hk
    simp only [Try.f64, Option.getD_some]
    by_cases hp : 0 < hi
    · have hpp := hpi.1 hp
      have e1 : headL s p = [(s, (p.getD 0 (0, 0)).1)] := by
        cases hpe : p with
        | nil => rw [hpe] at hpp; simp at hpp
        | cons x y => rfl
      have g0 := fst_get hpp
      rw [List.drop_zero] at g0
      have hf' := hf
      rcases hf with ⟨_, e1, _⟩ | ⟨i1, g1, rfl, hi1, hrow1, hlen1⟩
      · simp only [List.length_map] at e1; omega
      have hz : (0 : Int) < (fstL p).length := by simp only [List.length_map]; omega
      simp (disch := omega) only [go_sem, ↓IntWalk.iteOmega, IntWalk.toNatUp, Nat.reduceEqDiff, Nat.reduceAdd, Nat.reduceMul, Nat.reduceSub, Nat.reduceLT, Nat.reduceLeDiff, Int.reduceToNat, Int.reduceLT, Int.reduceLE, Int.reduceEq, Int.reduceAdd, Int.reduceSub, Int.reduceMul, Int.toNat_natCast, reduceCtorEq, decide_true, decide_false, IntWalk.i64_in, IntWalk.u64_in, IntWalk.u8_in, hp, hF, hrow1, g0, cNd_mk, hz]
      refine qfree_call (h.new (hnew _) (by omega)) _ _ (by omega) ?_
      intro o1 nx1 hle1 hB1 hk1
      have k1 : QKeep t o nx o1 := (QKeep.new (hnew _)).trans hk1 (by omega)
      have hx7 : o1 (nx, 7) = some (.row ⟨34, 1, (nx, 7), false, true, [.int .i64 kind, .int .i64 set, .int .i64 lo, .int .i64 hi, slN l]⟩) := by rw [hk1 _ _ (by omega) (fun e => absurd e (by decide)) (by decide) (by decide)]; simp [upd_app]
      simp (disch := omega) only [go_sem, ↓IntWalk.iteOmega, IntWalk.toNatUp, Nat.reduceEqDiff, Nat.reduceAdd, Nat.reduceMul, Nat.reduceSub, Nat.reduceLT, Nat.reduceLeDiff, Int.reduceToNat, Int.reduceLT, Int.reduceLE, Int.reduceEq, Int.reduceAdd, Int.reduceSub, Int.reduceMul, Int.toNat_natCast, reduceCtorEq, decide_true, decide_false, IntWalk.i64_in, IntWalk.u64_in, IntWalk.u8_in]
      exact loop _ _ _ _ _ (by rw [e1, frees_cons, frees_nil]) (fun a o' nx' hn hB hk => ⟨.inl rfl, rfl, hn, hB, hk⟩) (by omega) hx7 (hB1.new (fun _ _ _ => rfl) (by omega)) (hf'.keep k1 (by decide) (by decide) (by decide) (by omega)) (ht.keep k1 (by decide) (by decide) (by decide) (by omega)) (by simp (disch := omega) only [go_sem, ↓IntWalk.iteOmega, IntWalk.toNatUp, Nat.reduceEqDiff, Nat.reduceAdd, Nat.reduceMul, Nat.reduceSub, Nat.reduceLT, Nat.reduceLeDiff, Int.reduceToNat, Int.reduceLT, Int.reduceLE, Int.reduceEq, Int.reduceAdd, Int.reduceSub, Int.reduceMul, Int.toNat_natCast, reduceCtorEq, decide_true, decide_false, IntWalk.i64_in, IntWalk.u64_in, IntWalk.u8_in]) (by simp (disch := omega) only [go_sem, ↓IntWalk.iteOmega, IntWalk.toNatUp, Nat.reduceEqDiff, Nat.reduceAdd, Nat.reduceMul, Nat.reduceSub, Nat.reduceLT, Nat.reduceLeDiff, Int.reduceToNat, Int.reduceLT, Int.reduceLE, Int.reduceEq, Int.reduceAdd, Int.reduceSub, Int.reduceMul, Int.toNat_natCast, reduceCtorEq, decide_true, decide_false, IntWalk.i64_in, IntWalk.u64_in, IntWalk.u8_in]) (by simp (disch := omega) only [go_sem, ↓IntWalk.iteOmega, IntWalk.toNatUp, Nat.reduceEqDiff, Nat.reduceAdd, Nat.reduceMul, Nat.reduceSub, Nat.reduceLT, Nat.reduceLeDiff, Int.reduceToNat, Int.reduceLT, Int.reduceLE, Int.reduceEq, Int.reduceAdd, Int.reduceSub, Int.reduceMul, Int.toNat_natCast, reduceCtorEq, decide_true, decide_false, IntWalk.i64_in, IntWalk.u64_in, IntWalk.u8_in]) (by simp (disch := omega) only [go_sem, ↓IntWalk.iteOmega, IntWalk.toNatUp, Nat.reduceEqDiff, Nat.reduceAdd, Nat.reduceMul, Nat.reduceSub, Nat.reduceLT, Nat.reduceLeDiff, Int.reduceToNat, Int.reduceLT, Int.reduceLE, Int.reduceEq, Int.reduceAdd, Int.reduceSub, Int.reduceMul, Int.toNat_natCast, reduceCtorEq, decide_true, decide_false, IntWalk.i64_in, IntWalk.u64_in, IntWalk.u8_in]) (by simp (disch := omega) only [go_sem, ↓IntWalk.iteOmega, IntWalk.toNatUp, Nat.reduceEqDiff, Nat.reduceAdd, Nat.reduceMul, Nat.reduceSub, Nat.reduceLT, Nat.reduceLeDiff, Int.reduceToNat, Int.reduceLT, Int.reduceLE, Int.reduceEq, Int.reduceAdd, Int.reduceSub, Int.reduceMul, Int.toNat_natCast, reduceCtorEq, decide_true, decide_false, IntWalk.i64_in, IntWalk.u64_in, IntWalk.u8_in]) (by simp (disch := omega) only [go_sem, ↓IntWalk.iteOmega, IntWalk.toNatUp, Nat.reduceEqDiff, Nat.reduceAdd, Nat.reduceMul, Nat.reduceSub, Nat.reduceLT, Nat.reduceLeDiff, Int.reduceToNat, Int.reduceLT, Int.reduceLE, Int.reduceEq, Int.reduceAdd, Int.reduceSub, Int.reduceMul, Int.toNat_natCast, reduceCtorEq, decide_true, decide_false, IntWalk.i64_in, IntWalk.u64_in, IntWalk.u8_in]) (by simp (disch := omega) only [go_sem, ↓IntWalk.iteOmega, IntWalk.toNatUp, Nat.reduceEqDiff, Nat.reduceAdd, Nat.reduceMul, Nat.reduceSub, Nat.reduceLT, Nat.reduceLeDiff, Int.reduceToNat, Int.reduceLT, Int.reduceLE, Int.reduceEq, Int.reduceAdd, Int.reduceSub, Int.reduceMul, Int.toNat_natCast, reduceCtorEq, decide_true, decide_false, IntWalk.i64_in, IntWalk.u64_in, IntWalk.u8_in]) k1
    · have e1 : headL s p = [] := by
        cases hpe : p with
        | nil => rfl
        | cons x y => rw [hpe] at hpi; exact absurd (hpi.2 (by simp)) hp
      simp (disch := omega) only [go_sem, ↓IntWalk.iteOmega, IntWalk.toNatUp, Nat.reduceEqDiff, Nat.reduceAdd, Nat.reduceMul, Nat.reduceSub, Nat.reduceLT, Nat.reduceLeDiff, Int.reduceToNat, Int.reduceLT, Int.reduceLE, Int.reduceEq, Int.reduceAdd, Int.reduceSub, Int.reduceMul, Int.toNat_natCast, reduceCtorEq, decide_true, decide_false, IntWalk.i64_in, IntWalk.u64_in, IntWalk.u8_in, hp, hF, cNd_mk]
      exact loop _ _ _ _ _ (by rw [e1, frees_nil]) (fun a o' nx' hn hB hk => ⟨.inl rfl, rfl, hn, hB, hk⟩) (by omega) (upd_same _ _ _) (h.new (hnew _) (by omega)) (hf.slot (fun i => hsl _ i 70 (by decide)) (by omega)) (ht.slot (fun i => hsl _ i 74 (by decide)) (by omega)) (by simp (disch := omega) only [go_sem, ↓IntWalk.iteOmega, IntWalk.toNatUp, Nat.reduceEqDiff, Nat.reduceAdd, Nat.reduceMul, Nat.reduceSub, Nat.reduceLT, Nat.reduceLeDiff, Int.reduceToNat, Int.reduceLT, Int.reduceLE, Int.reduceEq, Int.reduceAdd, Int.reduceSub, Int.reduceMul, Int.toNat_natCast, reduceCtorEq, decide_true, decide_false, IntWalk.i64_in, IntWalk.u64_in, IntWalk.u8_in]) (by simp (disch := omega) only [go_sem, ↓IntWalk.iteOmega, IntWalk.toNatUp, Nat.reduceEqDiff, Nat.reduceAdd, Nat.reduceMul, Nat.reduceSub, Nat.reduceLT, Nat.reduceLeDiff, Int.reduceToNat, Int.reduceLT, Int.reduceLE, Int.reduceEq, Int.reduceAdd, Int.reduceSub, Int.reduceMul, Int.toNat_natCast, reduceCtorEq, decide_true, decide_false, IntWalk.i64_in, IntWalk.u64_in, IntWalk.u8_in]) (by simp (disch := omega) only [go_sem, ↓IntWalk.iteOmega, IntWalk.toNatUp, Nat.reduceEqDiff, Nat.reduceAdd, Nat.reduceMul, Nat.reduceSub, Nat.reduceLT, Nat.reduceLeDiff, Int.reduceToNat, Int.reduceLT, Int.reduceLE, Int.reduceEq, Int.reduceAdd, Int.reduceSub, Int.reduceMul, Int.toNat_natCast, reduceCtorEq, decide_true, decide_false, IntWalk.i64_in, IntWalk.u64_in, IntWalk.u8_in]) (by simp (disch := omega) only [go_sem, ↓IntWalk.iteOmega, IntWalk.toNatUp, Nat.reduceEqDiff, Nat.reduceAdd, Nat.reduceMul, Nat.reduceSub, Nat.reduceLT, Nat.reduceLeDiff, Int.reduceToNat, Int.reduceLT, Int.reduceLE, Int.reduceEq, Int.reduceAdd, Int.reduceSub, Int.reduceMul, Int.toNat_natCast, reduceCtorEq, decide_true, decide_false, IntWalk.i64_in, IntWalk.u64_in, IntWalk.u8_in]) (by simp (disch := omega) only [go_sem, ↓IntWalk.iteOmega, IntWalk.toNatUp, Nat.reduceEqDiff, Nat.reduceAdd, Nat.reduceMul, Nat.reduceSub, Nat.reduceLT, Nat.reduceLeDiff, Int.reduceToNat, Int.reduceLT, Int.reduceLE, Int.reduceEq, Int.reduceAdd, Int.reduceSub, Int.reduceMul, Int.toNat_natCast, reduceCtorEq, decide_true, decide_false, IntWalk.i64_in, IntWalk.u64_in, IntWalk.u8_in]) (by simp (disch := omega) only [go_sem, ↓IntWalk.iteOmega, IntWalk.toNatUp, Nat.reduceEqDiff, Nat.reduceAdd, Nat.reduceMul, Nat.reduceSub, Nat.reduceLT, Nat.reduceLeDiff, Int.reduceToNat, Int.reduceLT, Int.reduceLE, Int.reduceEq, Int.reduceAdd, Int.reduceSub, Int.reduceMul, Int.toNat_natCast, reduceCtorEq, decide_true, decide_false, IntWalk.i64_in, IntWalk.u64_in, IntWalk.u8_in]) (by simp (disch := omega) only [go_sem, ↓IntWalk.iteOmega, IntWalk.toNatUp, Nat.reduceEqDiff, Nat.reduceAdd, Nat.reduceMul, Nat.reduceSub, Nat.reduceLT, Nat.reduceLeDiff, Int.reduceToNat, Int.reduceLT, Int.reduceLE, Int.reduceEq, Int.reduceAdd, Int.reduceSub, Int.reduceMul, Int.toNat_natCast, reduceCtorEq, decide_true, decide_false, IntWalk.i64_in, IntWalk.u64_in, IntWalk.u8_in]) (QKeep.new (hnew _)))
  refine ⟨v, H', h1, fun t' b' kind' set' lo' hi' l' s' e' vf' vt' p' e hf' ht' hb => ?_⟩
  simp only [List.cons.injEq, AV.ptr.injEq, Prod.mk.injEq, AV.agg.injEq, AV.int.injEq, true_and, and_true] at e
  obtain ⟨⟨rfl, _⟩, e2, rfl, rfl, rfl, rfl⟩ := e
  have e3 := cNd_inj e2
  injection e3 with _ _ r1 _ _
  have e4 : p = p' := by
    have q1 := hf.same hf'
    have q2 := ht.same ht'
    exact pairs_eq q1 q2
  rw [← (h.same hb).1, ← r1, ← e4]
  exact h2
end Go.Proofs.Ytcaemgpificohaa.A
/- The document's builder: lead. -/
namespace Go.Proofs.Ytcaemgpificohaa.A
open Go
set_option maxRecDepth 20000
def leadB (kind set lo s e : Int) (p : List (Int × Int)) (b : BS) : BS :=
  if kind = 1 then b.step s e set
  else if kind = 3 then b.free s e
  else if kind = 5 then b.frees (uLinks s e p)
  else if kind = 6 then b.frees [(s, (p.getD 0 (0, 0)).1), (s, e), ((p.getD 0 (0, 0)).2, (p.getD 0 (0, 0)).1), ((p.getD 0 (0, 0)).2, e)]
  else if kind = 7 then b.frees [(s, (p.getD 0 (0, 0)).1), ((p.getD 0 (0, 0)).2, (p.getD 0 (0, 0)).1), ((p.getD 0 (0, 0)).2, e)]
  else if kind = 8 then b.frees [(s, (p.getD 0 (0, 0)).1), (s, e), ((p.getD 0 (0, 0)).2, e)]
  else if kind = 9 then b.frees (repL lo s e p)
  else b
def QLead (args : List AV) (H : AH) (v : AV) (H' : AH) : Prop := OkR Try.prog 57 args H v H' ∧ ∀ t b kind set lo hi l s e vf vt p, args = [bp t, nodeV (.mk kind set lo hi l), .int .i64 s, .int .i64 e, vf, vt] → IAt 70 H.o H.nx vf (fstL p) → IAt 74 H.o H.nx vt (sndL p) → QAt H.o H.nx t b false → v = .tup [] ∧ QTo t (leadB kind set lo s e p b) false H H'
def nzLead (id : Nat) : Option (List (Nat × Nat)) := if id = 3 then some [(5, 11)] else none
theorem lookQLead (X) : lookedAt (EX md0 X) nzLead 6 Try.f57 = true := by kernel_rfl
noncomputable abbrev tabLead : List (FuncId × (List AV → AH → Option (AV × AH))) := [(63, cRel QFree), (64, cRel QRep)]
theorem crQLead_ok : CRSound Try.prog (tabLookR tabLead) ∧ Up (tabLookR tabLead) :=
  tabR_cons (tabR_cons (tabR_nil _) fun args H v H' h => (cRel_some h).1) fun args H v H' h => (cRel_some h).1
/-- The walk of lead gives its contract. -/
theorem lead_of {kind set lo hi s e : Int} {l : List Nd} {p : List (Int × Int)} {vf vt : AV} {t : Nat} {o : Ob} {nx : Nat} {b : BS} (h : QAt o nx t b false) (hf : IAt 70 o nx vf (fstL p)) (ht : IAt 74 o nx vt (sndL p))
    (w : ∀ cr, cr 63 = cRel QFree → cr 64 = cRel QRep → WP (EX md0 (fun _ _ => none)) cr 30 nzLead (Try.f57.body.getD .skip) (begin_ [bp t, nodeV (.mk kind set lo hi l), .int .i64 s, .int .i64 e, vf, vt]) o nx (fun u a o' nx' => (u = .normal ∨ u = .ret) ∧ wO (resultsL Try.prog a ⟨o', nx'⟩ Try.f57.results.toList) (fun vs => tup1 vs = .tup [] ∧ QTo t (leadB kind set lo s e p b) false ⟨o, nx⟩ ⟨o', nx'⟩))) :
    ∃ v H', QLead [bp t, nodeV (.mk kind set lo hi l), .int .i64 s, .int .i64 e, vf, vt] ⟨o, nx⟩ v H' := by
  obtain ⟨v, H', h1, h2⟩ := okR_of_WP (E := EX md0 (fun _ _ => none)) (cr := tabLookR tabLead) (cp_none _) crQLead_ok mixed (k := 30) (nz := nzLead) (args := [bp t, nodeV (.mk kind set lo hi l), .int .i64 s, .int .i64 e, vf, vt]) (o := o) (nx := nx) (Post := fun v o' nx' => v = .tup [] ∧ QTo t (leadB kind set lo s e p b) false ⟨o, nx⟩ ⟨o', nx'⟩) Try.func57 (lookQLead _) rfl (w _ rfl rfl)
  refine ⟨v, H', h1, fun t' b' kind' set' lo' hi' l' s' e' vf' vt' p' e hf' ht' hb => ?_⟩
  simp only [List.cons.injEq, AV.ptr.injEq, Prod.mk.injEq, AV.agg.injEq, AV.int.injEq, true_and, and_true] at e
  obtain ⟨⟨rfl, _⟩, e2, rfl, rfl, rfl, rfl⟩ := e
  have e3 := cNd_inj e2
  injection e3 with r0 r1 r2 _ _
  rw [← (h.same hb).1, ← r0, ← r1, ← r2, ← pairs_eq (hf.same hf') (ht.same ht')]
  exact h2
theorem ulead_loop {cr : CallR} (hF : cr 63 = cRel QFree) {s e : Int} {t : Nat} {o0 : Ob} {nx0 : Nat} {T b : BS} {p : List (Int × Int)} {vf vt : AV} {a : AAct} {o : Ob} {nx : Nat} {Q : WPost} (hlen : p.length ≤ 10) (hnx : nx0 ≤ nx) (hB : QAt o nx t b false) (hT : b.frees (uLinks s e p) = T) (hbf : b.f.length ≤ 1000000) (hf : IAt 70 o nx vf (fstL p)) (ht : IAt 74 o nx vt (sndL p)) (h12 : a 12 = .int .i64 0)
    (hmore : a 0 = bp t ∧ a 2 = .int .i64 s ∧ a 3 = .int .i64 e ∧ a 4 = vf ∧ a 5 = vt ∧ QKeep t o0 nx0 o)
    (hQ : ∀ a o nx, nx0 ≤ nx → QAt o nx t T false → QKeep t o0 nx0 o → Q .normal a o nx) :
    WP (EX md0 (fun _ _ => none)) cr 30 nzLead (pathC [1, 1, 0, 1, 1, 1, 1, 1, 0, 1, 0] (Try.f57.body.getD .skip)) a o nx (blockQ 1 Q) := by
  simp only [Try.f57, Option.getD_some, pathC]
  refine WP_loop (fun m a o nx => ∃ (i : Nat) (b : BS), i ≤ p.length ∧ m = p.length - i ∧ nx0 ≤ nx ∧ QAt o nx t b false ∧ b.frees (uLinks s e (p.drop i)) = T ∧ b.f.length ≤ 1000000 + 2 * i ∧ IAt 70 o nx vf (fstL p) ∧ IAt 74 o nx vt (sndL p) ∧ a 12 = .int .i64 i ∧ a 0 = bp t ∧ a 2 = .int .i64 s ∧ a 3 = .int .i64 e ∧ a 4 = vf ∧ a 5 = vt ∧ QKeep t o0 nx0 o) p.length (by omega) ⟨0, b, by omega, by omega, hnx, hB, hT, by omega, hf, ht, h12, hmore⟩ ?_
  clear hmore h12 hB hT hbf hf ht hnx
  rintro m a o nx ⟨i, b, hi, rfl, hnx, hB, hT, hbf, hf, ht, h12, h0, h2, h3, h4, h5, hkp⟩
  by_cases hlt : i < p.length
  · have hf' := hf
    have ht' := ht
    rcases hf with ⟨_, e1, _⟩ | ⟨i1, g1, rfl, hi1, hrow1, hlen1⟩
    · simp only [List.length_map] at e1; omega
    rcases ht with ⟨_, e1, _⟩ | ⟨i2, g2, rfl, hi2, hrow2, hlen2⟩
    · simp only [List.length_map] at e1; omega
    simp only [List.length_map] at h4 h5
    have g0 := snd_get hlt
    have g1' := fst_get hlt
    rw [getD_drop p (0, 0) hlt, show uLinks s e (p.getD i (0, 0) :: p.drop (i + 1)) = (s, (p.getD i (0, 0)).1) :: ((p.getD i (0, 0)).2, e) :: uLinks s e (p.drop (i + 1)) from rfl, frees_cons, frees_cons] at hT
    simp (disch := omega) only [go_sem, ↓IntWalk.iteOmega, IntWalk.toNatUp, Nat.reduceEqDiff, Nat.reduceAdd, Nat.reduceMul, Nat.reduceSub, Nat.reduceLT, Nat.reduceLeDiff, Int.reduceToNat, Int.reduceLT, Int.reduceLE, Int.reduceEq, Int.reduceAdd, Int.reduceSub, Int.reduceMul, Int.toNat_natCast, reduceCtorEq, decide_true, decide_false, IntWalk.i64_in, IntWalk.u64_in, IntWalk.u8_in, h0, h2, h3, h4, h5, h12, hrow1, hrow2, g0, g1', hF]
    refine qfree_call (hB.new (fun _ _ _ => rfl) (by omega)) _ _ (by omega) ?_
    intro o1 nx1 hle1 hB1 hk1
    have k1 : QKeep t o nx o1 := fun i j (hi : i < nx) => hk1 i j (by omega)
    have hr1 := k1.row hrow1 hi1 (fun e => absurd e (by decide)) (by decide) (by decide)
    have hr2 := k1.row hrow2 hi2 (fun e => absurd e (by decide)) (by decide) (by decide)
    simp (disch := omega) only [go_sem, ↓IntWalk.iteOmega, IntWalk.toNatUp, Nat.reduceEqDiff, Nat.reduceAdd, Nat.reduceMul, Nat.reduceSub, Nat.reduceLT, Nat.reduceLeDiff, Int.reduceToNat, Int.reduceLT, Int.reduceLE, Int.reduceEq, Int.reduceAdd, Int.reduceSub, Int.reduceMul, Int.toNat_natCast, reduceCtorEq, decide_true, decide_false, IntWalk.i64_in, IntWalk.u64_in, IntWalk.u8_in, h0, h2, h3, h4, h5, h12, hr1, hr2, g0, g1', hF]
    refine qfree_call (hB1.new (fun _ _ _ => rfl) (by omega)) _ _ (by simp only [BS.free_f, List.length_append, List.length_cons, List.length_nil]; omega) ?_
    intro o2 nx2 hle2 hB2 hk2
    have k2 : QKeep t o nx o2 := k1.trans (fun i j (hi : i < nx1) => hk2 i j (by omega)) (by omega)
    simp (disch := omega) only [go_sem, ↓IntWalk.iteOmega, IntWalk.toNatUp, Nat.reduceEqDiff, Nat.reduceAdd, Nat.reduceMul, Nat.reduceSub, Nat.reduceLT, Nat.reduceLeDiff, Int.reduceToNat, Int.reduceLT, Int.reduceLE, Int.reduceEq, Int.reduceAdd, Int.reduceSub, Int.reduceMul, Int.toNat_natCast, reduceCtorEq, decide_true, decide_false, IntWalk.i64_in, IntWalk.u64_in, IntWalk.u8_in, h0, h2, h3, h4, h5, h12, hF]
    refine ⟨_, ?_, i + 1, _, by omega, rfl, by omega, hB2.new (fun _ _ _ => rfl) (by omega), hT, by simp only [BS.free_f, List.length_append, List.length_cons, List.length_nil]; omega, hf'.keep k2 (by decide) (by decide) (by decide) (by omega), ht'.keep k2 (by decide) (by decide) (by decide) (by omega), rfl, by simp, by simp, hkp.trans k2 hnx⟩
    omega
  · rw [List.drop_of_length_le (by omega), show uLinks s e [] = [] from rfl, frees_nil] at hT
    rcases hf with ⟨rfl, e1, _⟩ | ⟨i1, g1, rfl, hi1, hrow1, hlen1⟩
    · have hz : ¬ (i : Int) < 0 := by omega
      simp (disch := omega) only [go_sem, ↓IntWalk.iteOmega, IntWalk.toNatUp, Nat.reduceEqDiff, Nat.reduceAdd, Nat.reduceMul, Nat.reduceSub, Nat.reduceLT, Nat.reduceLeDiff, Int.reduceToNat, Int.reduceLT, Int.reduceLE, Int.reduceEq, Int.reduceAdd, Int.reduceSub, Int.reduceMul, Int.toNat_natCast, reduceCtorEq, decide_true, decide_false, IntWalk.i64_in, IntWalk.u64_in, IntWalk.u8_in, h0, h2, h3, h4, h5, h12, hz]
      exact hQ _ _ _ (by omega) (hT ▸ hB.new (fun _ _ _ => rfl) (by omega)) hkp
    · simp only [List.length_map] at h4
      simp (disch := omega) only [go_sem, ↓IntWalk.iteOmega, IntWalk.toNatUp, Nat.reduceEqDiff, Nat.reduceAdd, Nat.reduceMul, Nat.reduceSub, Nat.reduceLT, Nat.reduceLeDiff, Int.reduceToNat, Int.reduceLT, Int.reduceLE, Int.reduceEq, Int.reduceAdd, Int.reduceSub, Int.reduceMul, Int.toNat_natCast, reduceCtorEq, decide_true, decide_false, IntWalk.i64_in, IntWalk.u64_in, IntWalk.u8_in, h0, h2, h3, h4, h5, h12]
      exact hQ _ _ _ (by omega) (hT ▸ hB.new (fun _ _ _ => rfl) (by omega)) hkp
section
variable {kind set lo hi s e : Int} {l : List Nd} {p : List (Int × Int)} {vf vt : AV} {t : Nat} {o : Ob} {nx : Nat} {b : BS}
theorem qto_fin {b' : BS} {o1 : Ob} {nx1 nx2 : Nat} (hB1 : QAt o1 nx1 t b' false) (k1 : QKeep t o nx o1) (hle : nx ≤ nx1) (h2 : nx1 ≤ nx2) : QTo t b' false ⟨o, nx⟩ ⟨o1, nx2⟩ := ⟨by show nx ≤ nx2; omega, hB1.new (fun _ _ _ => rfl) h2, k1⟩
theorem lead_union (h : QAt o nx t b false) (hf : IAt 70 o nx vf (fstL p)) (ht : IAt 74 o nx vt (sndL p)) (hbf : b.f.length ≤ 800000) (hlen : p.length ≤ 10) (hk : kind = 5) : ∃ v H', QLead [bp t, nodeV (.mk kind set lo hi l), .int .i64 s, .int .i64 e, vf, vt] ⟨o, nx⟩ v H' := by
  refine lead_of h hf ht fun cr hF hR => ?_
  have hsl : ∀ y, ∀ i j, j ≠ 7 → upd o (nx, 7) y (i, j) = o (i, j) := fun y i j hj => by simp [upd_app, hj]
  have hnew : ∀ y, ∀ i j, i < nx → upd o (nx, 7) y (i, j) = o (i, j) := fun y i j hi => by simp (disch := omega) only [upd_fst]
  have e1 : leadB kind set lo s e p b = b.frees (uLinks s e p) := by rw [leadB, if_neg (by omega), if_neg (by omega), if_pos hk]
  rw [e1]
  subst hk
  simp only [Try.f57, Option.getD_some]
  simp (disch := omega) only [go_sem, ↓IntWalk.iteOmega, IntWalk.toNatUp, Nat.reduceEqDiff, Nat.reduceAdd, Nat.reduceMul, Nat.reduceSub, Nat.reduceLT, Nat.reduceLeDiff, Int.reduceToNat, Int.reduceLT, Int.reduceLE, Int.reduceEq, Int.reduceAdd, Int.reduceSub, Int.reduceMul, Int.toNat_natCast, reduceCtorEq, decide_true, decide_false, IntWalk.i64_in, IntWalk.u64_in, IntWalk.u8_in, hF, nzLead]
  refine ulead_loop hF (s := s) (e := e) (o0 := o) (nx0 := nx) hlen (by omega) (h.new (hnew _) (by omega)) rfl (by omega) (hf.slot (fun i => hsl _ i 70 (by decide)) (by omega)) (ht.slot (fun i => hsl _ i 74 (by decide)) (by omega)) (by simp (disch := omega) only [go_sem, ↓IntWalk.iteOmega, IntWalk.toNatUp, Nat.reduceEqDiff, Nat.reduceAdd, Nat.reduceMul, Nat.reduceSub, Nat.reduceLT, Nat.reduceLeDiff, Int.reduceToNat, Int.reduceLT, Int.reduceLE, Int.reduceEq, Int.reduceAdd, Int.reduceSub, Int.reduceMul, Int.toNat_natCast, reduceCtorEq, decide_true, decide_false, IntWalk.i64_in, IntWalk.u64_in, IntWalk.u8_in]) ⟨by simp (disch := omega) only [go_sem, ↓IntWalk.iteOmega, IntWalk.toNatUp, Nat.reduceEqDiff, Nat.reduceAdd, Nat.reduceMul, Nat.reduceSub, Nat.reduceLT, Nat.reduceLeDiff, Int.reduceToNat, Int.reduceLT, Int.reduceLE, Int.reduceEq, Int.reduceAdd, Int.reduceSub, Int.reduceMul, Int.toNat_natCast, reduceCtorEq, decide_true, decide_false, IntWalk.i64_in, IntWalk.u64_in, IntWalk.u8_in], by simp (disch := omega) only [go_sem, ↓IntWalk.iteOmega, IntWalk.toNatUp, Nat.reduceEqDiff, Nat.reduceAdd, Nat.reduceMul, Nat.reduceSub, Nat.reduceLT, Nat.reduceLeDiff, Int.reduceToNat, Int.reduceLT, Int.reduceLE, Int.reduceEq, Int.reduceAdd, Int.reduceSub, Int.reduceMul, Int.toNat_natCast, reduceCtorEq, decide_true, decide_false, IntWalk.i64_in, IntWalk.u64_in, IntWalk.u8_in], by simp (disch := omega) only [go_sem, ↓IntWalk.iteOmega, IntWalk.toNatUp, Nat.reduceEqDiff, Nat.reduceAdd, Nat.reduceMul, Nat.reduceSub, Nat.reduceLT, Nat.reduceLeDiff, Int.reduceToNat, Int.reduceLT, Int.reduceLE, Int.reduceEq, Int.reduceAdd, Int.reduceSub, Int.reduceMul, Int.toNat_natCast, reduceCtorEq, decide_true, decide_false, IntWalk.i64_in, IntWalk.u64_in, IntWalk.u8_in], by simp (disch := omega) only [go_sem, ↓IntWalk.iteOmega, IntWalk.toNatUp, Nat.reduceEqDiff, Nat.reduceAdd, Nat.reduceMul, Nat.reduceSub, Nat.reduceLT, Nat.reduceLeDiff, Int.reduceToNat, Int.reduceLT, Int.reduceLE, Int.reduceEq, Int.reduceAdd, Int.reduceSub, Int.reduceMul, Int.toNat_natCast, reduceCtorEq, decide_true, decide_false, IntWalk.i64_in, IntWalk.u64_in, IntWalk.u8_in], by simp (disch := omega) only [go_sem, ↓IntWalk.iteOmega, IntWalk.toNatUp, Nat.reduceEqDiff, Nat.reduceAdd, Nat.reduceMul, Nat.reduceSub, Nat.reduceLT, Nat.reduceLeDiff, Int.reduceToNat, Int.reduceLT, Int.reduceLE, Int.reduceEq, Int.reduceAdd, Int.reduceSub, Int.reduceMul, Int.toNat_natCast, reduceCtorEq, decide_true, decide_false, IntWalk.i64_in, IntWalk.u64_in, IntWalk.u8_in], QKeep.new (hnew _)⟩ ?_
  intro a o1 nx1 hn1 hB1 k1
  simp (disch := omega) only [go_sem, ↓IntWalk.iteOmega, IntWalk.toNatUp, Nat.reduceEqDiff, Nat.reduceAdd, Nat.reduceMul, Nat.reduceSub, Nat.reduceLT, Nat.reduceLeDiff, Int.reduceToNat, Int.reduceLT, Int.reduceLE, Int.reduceEq, Int.reduceAdd, Int.reduceSub, Int.reduceMul, Int.toNat_natCast, reduceCtorEq, decide_true, decide_false, IntWalk.i64_in, IntWalk.u64_in, IntWalk.u8_in]
  exact ⟨rfl, qto_fin hB1 k1 hn1 (Nat.le_refl _)⟩
theorem lead_none (h : QAt o nx t b false) (hf : IAt 70 o nx vf (fstL p)) (ht : IAt 74 o nx vt (sndL p)) (hbf : b.f.length ≤ 800000) (hk : kind = 3) : ∃ v H', QLead [bp t, nodeV (.mk kind set lo hi l), .int .i64 s, .int .i64 e, vf, vt] ⟨o, nx⟩ v H' := by
  refine lead_of h hf ht fun cr hF hR => ?_
  have hnew : ∀ y, ∀ i j, i < nx → upd o (nx, 7) y (i, j) = o (i, j) := fun y i j hi => by simp (disch := omega) only [upd_fst]
  have e1 : leadB kind set lo s e p b = b.free s e := by rw [leadB, if_neg (by omega), if_pos hk]
  rw [e1]
  subst hk
  simp only [Try.f57, Option.getD_some]
  simp (disch := omega) only [go_sem, ↓IntWalk.iteOmega, IntWalk.toNatUp, Nat.reduceEqDiff, Nat.reduceAdd, Nat.reduceMul, Nat.reduceSub, Nat.reduceLT, Nat.reduceLeDiff, Int.reduceToNat, Int.reduceLT, Int.reduceLE, Int.reduceEq, Int.reduceAdd, Int.reduceSub, Int.reduceMul, Int.toNat_natCast, reduceCtorEq, decide_true, decide_false, IntWalk.i64_in, IntWalk.u64_in, IntWalk.u8_in, hF, nzLead]
  refine qfree_call (h.new (hnew _) (by omega)) _ _ (by omega) ?_
  intro o1 nx1 hn1 hB1 hk1
  have k1 : QKeep t o nx o1 := (QKeep.new (hnew _)).trans hk1 (by omega)
  simp (disch := omega) only [go_sem, ↓IntWalk.iteOmega, IntWalk.toNatUp, Nat.reduceEqDiff, Nat.reduceAdd, Nat.reduceMul, Nat.reduceSub, Nat.reduceLT, Nat.reduceLeDiff, Int.reduceToNat, Int.reduceLT, Int.reduceLE, Int.reduceEq, Int.reduceAdd, Int.reduceSub, Int.reduceMul, Int.toNat_natCast, reduceCtorEq, decide_true, decide_false, IntWalk.i64_in, IntWalk.u64_in, IntWalk.u8_in]
  exact ⟨rfl, qto_fin hB1 k1 (by omega) (by omega)⟩
theorem lead_other (h : QAt o nx t b false) (hf : IAt 70 o nx vf (fstL p)) (ht : IAt 74 o nx vt (sndL p)) (k1 : kind ≠ 1) (k3 : kind ≠ 3) (k5 : kind ≠ 5) (k6 : kind ≠ 6) (k7 : kind ≠ 7) (k8 : kind ≠ 8) (k9 : kind ≠ 9) : ∃ v H', QLead [bp t, nodeV (.mk kind set lo hi l), .int .i64 s, .int .i64 e, vf, vt] ⟨o, nx⟩ v H' := by
  refine lead_of h hf ht fun cr hF hR => ?_
  have hnew : ∀ y, ∀ i j, i < nx → upd o (nx, 7) y (i, j) = o (i, j) := fun y i j hi => by simp (disch := omega) only [upd_fst]
  have e1 : leadB kind set lo s e p b = b := by rw [leadB, if_neg k1, if_neg k3, if_neg k5, if_neg k6, if_neg k7, if_neg k8, if_neg k9]
  rw [e1]
  simp only [Try.f57, Option.getD_some]
  simp (disch := omega) only [go_sem, ↓IntWalk.iteOmega, IntWalk.toNatUp, Nat.reduceEqDiff, Nat.reduceAdd, Nat.reduceMul, Nat.reduceSub, Nat.reduceLT, Nat.reduceLeDiff, Int.reduceToNat, Int.reduceLT, Int.reduceLE, Int.reduceEq, Int.reduceAdd, Int.reduceSub, Int.reduceMul, Int.toNat_natCast, reduceCtorEq, decide_true, decide_false, IntWalk.i64_in, IntWalk.u64_in, IntWalk.u8_in, hF, nzLead, k1, k3, k5, k6, k7, k8, k9]
  exact ⟨rfl, qto_fin (nx1 := nx + 1) (h.new (hnew _) (by omega)) (QKeep.new (hnew _)) (by omega) (by omega)⟩
theorem lead_rep (h : QAt o nx t b false) (hf : IAt 70 o nx vf (fstL p)) (ht : IAt 74 o nx vt (sndL p)) (hbf : b.f.length ≤ 800000) (hlen : p.length ≤ 10) (hlo : 0 ≤ lo ∧ lo ≤ 10) (hpi : 0 < hi ↔ 0 < p.length) (hk : kind = 9) : ∃ v H', QLead [bp t, nodeV (.mk kind set lo hi l), .int .i64 s, .int .i64 e, vf, vt] ⟨o, nx⟩ v H' := by
  refine lead_of h hf ht fun cr hF hR => ?_
  have hsl : ∀ y, ∀ i j, j ≠ 7 → upd o (nx, 7) y (i, j) = o (i, j) := fun y i j hj => by simp [upd_app, hj]
  have hnew : ∀ y, ∀ i j, i < nx → upd o (nx, 7) y (i, j) = o (i, j) := fun y i j hi => by simp (disch := omega) only [upd_fst]
  have e1 : leadB kind set lo s e p b = b.frees (repL lo s e p) := by rw [leadB, if_neg (by omega), if_neg (by omega), if_neg (by omega), if_neg (by omega), if_neg (by omega), if_neg (by omega), if_pos hk]
  rw [e1]
  subst hk
  simp only [Try.f57, Option.getD_some]
  have hcn : cNd (.mk 9 set lo hi l) = [.int .i64 9, .int .i64 set, .int .i64 lo, .int .i64 hi, slN l] := cNd_mk ..
  simp (disch := omega) only [go_sem, ↓IntWalk.iteOmega, IntWalk.toNatUp, Nat.reduceEqDiff, Nat.reduceAdd, Nat.reduceMul, Nat.reduceSub, Nat.reduceLT, Nat.reduceLeDiff, Int.reduceToNat, Int.reduceLT, Int.reduceLE, Int.reduceEq, Int.reduceAdd, Int.reduceSub, Int.reduceMul, Int.toNat_natCast, reduceCtorEq, decide_true, decide_false, IntWalk.i64_in, IntWalk.u64_in, IntWalk.u8_in, hR, nzLead]
  simp only [← hcn]
  refine cRel_call (qrep_ok (kind := 9) (set := set) (l := l) (s := s) (e := e) hlo hlen hpi (h.new (hnew _) (by omega)) (hf.slot (fun i => hsl _ i 70 (by decide)) (by omega)) (ht.slot (fun i => hsl _ i 74 (by decide)) (by omega)) (by omega)) fun v H' hr => ?_
  obtain ⟨rfl, h1, h2, h3⟩ := hr.2 t b 9 set lo hi l s e vf vt p rfl (hf.slot (fun i => hsl _ i 70 (by decide)) (by dsimp only; omega)) (ht.slot (fun i => hsl _ i 74 (by decide)) (by dsimp only; omega)) (h.new (hnew _) (by dsimp only; omega))
  obtain ⟨o1, nx1⟩ := H'
  dsimp only at h1 h2 h3
  have k1 : QKeep t o nx o1 := (QKeep.new (hnew _)).trans h3 (by omega)
  simp (disch := omega) only [go_sem, ↓IntWalk.iteOmega, IntWalk.toNatUp, Nat.reduceEqDiff, Nat.reduceAdd, Nat.reduceMul, Nat.reduceSub, Nat.reduceLT, Nat.reduceLeDiff, Int.reduceToNat, Int.reduceLT, Int.reduceLE, Int.reduceEq, Int.reduceAdd, Int.reduceSub, Int.reduceMul, Int.toNat_natCast, reduceCtorEq, decide_true, decide_false, IntWalk.i64_in, IntWalk.u64_in, IntWalk.u8_in]
  exact ⟨rfl, qto_fin h2 k1 (by omega) (by omega)⟩
theorem lead_once (h : QAt o nx t b false) (hf : IAt 70 o nx vf (fstL p)) (ht : IAt 74 o nx vt (sndL p)) (hbf : b.f.length ≤ 800000) (hlen : p.length = 1) (hk : kind = 6 ∨ kind = 7 ∨ kind = 8) : ∃ v H', QLead [bp t, nodeV (.mk kind set lo hi l), .int .i64 s, .int .i64 e, vf, vt] ⟨o, nx⟩ v H' := by
  refine lead_of h hf ht fun cr hF hR => ?_
  have hnew : ∀ y, ∀ i j, i < nx → upd o (nx, 7) y (i, j) = o (i, j) := fun y i j hi => by simp (disch := omega) only [upd_fst]
  have g0 := fst_get (p := p) (i := 0) (by omega)
  have g1' := snd_get (p := p) (i := 0) (by omega)
  rw [List.drop_zero] at g0 g1'
  have hz1 : (0 : Int) < (fstL p).length := by simp only [List.length_map]; omega
  have hz2 : (0 : Int) < (sndL p).length := by simp only [List.length_map]; omega
  rcases hf with ⟨_, e1, _⟩ | ⟨i1, g1, rfl, hi1, hrow1, hlen1⟩
  · simp only [List.length_map] at e1; omega
  rcases ht with ⟨_, e1, _⟩ | ⟨i2, g2, rfl, hi2, hrow2, hlen2⟩
  · simp only [List.length_map] at e1; omega
  have k0 : ∀ y, QKeep t o nx (upd o (nx, 7) y) := fun y => QKeep.new (hnew y)
  simp only [Try.f57, Option.getD_some]
  obtain ⟨q0, hq0⟩ : ∃ q0, q0 = p.getD 0 (0, 0) := ⟨_, rfl⟩
  have hL : leadB kind set lo s e p b = if kind = 6 then (((b.free s q0.1).free s e).free q0.2 q0.1).free q0.2 e else if kind = 7 then ((b.free s q0.1).free q0.2 q0.1).free q0.2 e else ((b.free s q0.1).free s e).free q0.2 e := by
    rw [hq0]
    unfold leadB
    rcases hk with rfl | rfl | rfl <;> simp [frees_cons, frees_nil]
  rw [hL]
  rw [← hq0] at g0 g1'
  rcases hk with rfl | rfl | rfl
  all_goals
    simp (disch := omega) only [go_sem, ↓IntWalk.iteOmega, IntWalk.toNatUp, Nat.reduceEqDiff, Nat.reduceAdd, Nat.reduceMul, Nat.reduceSub, Nat.reduceLT, Nat.reduceLeDiff, Int.reduceToNat, Int.reduceLT, Int.reduceLE, Int.reduceEq, Int.reduceAdd, Int.reduceSub, Int.reduceMul, Int.toNat_natCast, reduceCtorEq, decide_true, decide_false, IntWalk.i64_in, IntWalk.u64_in, IntWalk.u8_in, hF, nzLead, hrow1, hrow2, g0, g1', hz1, hz2]
    refine qfree_call (h.new (hnew _) (by omega)) _ _ (by omega) ?_
    intro o1 nx1 hle1 hB1 hk1
    have k1 : QKeep t o nx o1 := (QKeep.new (hnew _)).trans hk1 (by omega)
    have hr1 := k1.row hrow1 hi1 (fun e => absurd e (by decide)) (by decide) (by decide)
    have hr2 := k1.row hrow2 hi2 (fun e => absurd e (by decide)) (by decide) (by decide)
    clear hk1
    simp (disch := omega) only [go_sem, ↓IntWalk.iteOmega, IntWalk.toNatUp, Nat.reduceEqDiff, Nat.reduceAdd, Nat.reduceMul, Nat.reduceSub, Nat.reduceLT, Nat.reduceLeDiff, Int.reduceToNat, Int.reduceLT, Int.reduceLE, Int.reduceEq, Int.reduceAdd, Int.reduceSub, Int.reduceMul, Int.toNat_natCast, reduceCtorEq, decide_true, decide_false, IntWalk.i64_in, IntWalk.u64_in, IntWalk.u8_in, hF, nzLead, hr1, hr2, g0, g1', hz1, hz2]
    have hnn : nx ≤ nx1 := by omega
    repeat
      refine qfree_call (hB1.new (fun _ _ _ => rfl) (by omega)) _ _ (by simp only [BS.free_f, List.length_append, List.length_cons, List.length_nil]; omega) ?_
      clear hr1 hr2
      intro o1 nx1 hle2 hB2 hk1
      replace k1 : QKeep t o nx o1 := k1.trans (fun i j (hi : i < _) => hk1 i j (by omega)) (by omega)
      have hr1 := k1.row hrow1 hi1 (fun e => absurd e (by decide)) (by decide) (by decide)
      have hr2 := k1.row hrow2 hi2 (fun e => absurd e (by decide)) (by decide) (by decide)
      replace hB1 := hB2
      replace hnn : nx ≤ nx1 := by omega
      clear hk1 hB2
      simp (disch := omega) only [go_sem, ↓IntWalk.iteOmega, IntWalk.toNatUp, Nat.reduceEqDiff, Nat.reduceAdd, Nat.reduceMul, Nat.reduceSub, Nat.reduceLT, Nat.reduceLeDiff, Int.reduceToNat, Int.reduceLT, Int.reduceLE, Int.reduceEq, Int.reduceAdd, Int.reduceSub, Int.reduceMul, Int.toNat_natCast, reduceCtorEq, decide_true, decide_false, IntWalk.i64_in, IntWalk.u64_in, IntWalk.u8_in, hF, nzLead, hr1, hr2, g0, g1', hz1, hz2]
    exact ⟨rfl, qto_fin hB1 k1 (by omega) (by omega)⟩
theorem lead_set (h : QAt o nx t b false) (hf : IAt 70 o nx vf (fstL p)) (ht : IAt 74 o nx vt (sndL p)) (hbs : b.s.length ≤ 800000) (hk : kind = 1) : ∃ v H', QLead [bp t, nodeV (.mk kind set lo hi l), .int .i64 s, .int .i64 e, vf, vt] ⟨o, nx⟩ v H' := by
  refine lead_of h hf ht fun cr hF hR => ?_
  have hnew : ∀ y, ∀ i j, i < nx → upd o (nx, 7) y (i, j) = o (i, j) := fun y i j hi => by simp (disch := omega) only [upd_fst]
  have e1 : leadB kind set lo s e p b = b.step s e set := by rw [leadB, if_pos hk]
  rw [e1]
  subst hk
  simp only [Try.f57, Option.getD_some]
  obtain ⟨vS, vF, hB⟩ := h
  have r1 := hB.lt
  have r2 := hB.row
  have r3 := hB.s.ok
  have r4 := hB.f.ok
  have hff := hB.f
  have hb3 : (b.step s e set).s.length = b.s.length + 1 := by show List.length (_ ++ _) = _; rw [List.length_append]; rfl
  have hb5 : cS (b.step s e set).s = cS b.s ++ [.int .i64 s, .int .i64 e, .int .i64 set] := by show cS (_ ++ _) = _; rw [cS_app]; rfl
  have hb6 : (b.step s e set).f = b.f := rfl
  have key : ∀ (i k : Nat) (g : Tag) (x y z : AObj) (v : AV), i ≤ nx + k → z = .row ⟨48, 3, g, false, true, cS b.s ++ [.int .i64 s, .int .i64 e, .int .i64 set]⟩ → v = .ref (i, 29) g 0 (b.s.length + 1) → QTo t (b.step s e set) false ⟨o, nx⟩ ⟨upd (upd (upd (upd o (nx, 7) x) (nx + k, 28) y) (i, 29) z) (t, 8) (.row ⟨72, 1, (t, 8), false, true, [.int .i64 b.n, .int .i64 0, .int .i64 0, v, vF, .bool false]⟩), nx + k + 1⟩ := by
    intro i k g x y z v hi hz hv
    subst hz hv
    refine ⟨by show nx ≤ nx + k + 1; omega, ⟨_, vF, ⟨by show t < nx + k + 1; omega, upd_same _ _ _, .inr ⟨i, g, by rw [hb3], by show i < nx + k + 1; omega, ?_, ?_⟩, ?_⟩⟩, fun i' j' hi' a1 a2 a3 => ?_⟩
    · rw [hb5]; simp [upd_app]
    · rw [cS_length]
    · rw [hb6]; exact hff.keep (fun i' hi' => by simp [upd_app]) (by show nx ≤ nx + k + 1; omega)
    · have n1 : i' ≠ nx + k := by have : i' < nx := hi'; omega
      have n2 : i' ≠ nx := by have : i' < nx := hi'; omega
      by_cases hj : j' = 8
      · have := a1 hj
        simp [upd_app, n1, n2, hj, this]
      · simp [upd_app, n1, n2, hj, a2]
  rcases hB.s with ⟨rfl, q2, q3⟩ | ⟨i1, g1, rfl, hi1, hrow, hlen⟩
  · simp (disch := omega) only [go_sem, ↓IntWalk.iteOmega, IntWalk.toNatUp, Nat.reduceEqDiff, Nat.reduceAdd, Nat.reduceMul, Nat.reduceSub, Nat.reduceLT, Nat.reduceLeDiff, Int.reduceToNat, Int.reduceLT, Int.reduceLE, Int.reduceEq, Int.reduceAdd, Int.reduceSub, Int.reduceMul, Int.toNat_natCast, reduceCtorEq, decide_true, decide_false, IntWalk.i64_in, IntWalk.u64_in, IntWalk.u8_in, r2, r3, r4, nzLead]
    exact ⟨rfl, key (nx + 3) 3 (nx + 3, 29) _ _ _ _ (by omega) (by rw [q3]; rfl) (by rw [q2])⟩
  · simp (disch := omega) only [go_sem, ↓IntWalk.iteOmega, IntWalk.toNatUp, Nat.reduceEqDiff, Nat.reduceAdd, Nat.reduceMul, Nat.reduceSub, Nat.reduceLT, Nat.reduceLeDiff, Int.reduceToNat, Int.reduceLT, Int.reduceLE, Int.reduceEq, Int.reduceAdd, Int.reduceSub, Int.reduceMul, Int.toNat_natCast, reduceCtorEq, decide_true, decide_false, IntWalk.i64_in, IntWalk.u64_in, IntWalk.u8_in, r2, r3, r4, nzLead, hrow]
    exact ⟨rfl, key i1 3 (nx + 3, 29) _ _ _ _ (by omega) rfl rfl⟩
/-- lead, of any kind. -/
theorem lead_ok (h : QAt o nx t b false) (hf : IAt 70 o nx vf (fstL p)) (ht : IAt 74 o nx vt (sndL p)) (hbf : b.f.length ≤ 800000) (hbs : b.s.length ≤ 800000) (hlen : p.length ≤ 10) (h1 : kind = 6 ∨ kind = 7 ∨ kind = 8 → p.length = 1) (h9 : kind = 9 → (0 ≤ lo ∧ lo ≤ 10) ∧ (0 < hi ↔ 0 < p.length)) : ∃ v H', QLead [bp t, nodeV (.mk kind set lo hi l), .int .i64 s, .int .i64 e, vf, vt] ⟨o, nx⟩ v H' := by
  by_cases k1 : kind = 1
  · exact lead_set h hf ht hbs k1
  by_cases k3 : kind = 3
  · exact lead_none h hf ht hbf k3
  by_cases k5 : kind = 5
  · exact lead_union h hf ht hbf hlen k5
  by_cases k6 : kind = 6 ∨ kind = 7 ∨ kind = 8
  · exact lead_once h hf ht hbf (h1 k6) k6
  by_cases k9 : kind = 9
  · exact lead_rep h hf ht hbf hlen (h9 k9).1 (h9 k9).2 k9
  exact lead_other h hf ht k1 k3 k5 (fun h => k6 (.inl h)) (fun h => k6 (.inr (.inl h))) (fun h => k6 (.inr (.inr h))) k9
end
end Go.Proofs.Ytcaemgpificohaa.A
/- The document's builder: the loops of part and join. -/
namespace Go.Proofs.Ytcaemgpificohaa.A
open Go
set_option maxRecDepth 20000
structure QPre (b : BS) : Prop where
  f : b.f.length ≤ 4 * b.n
  s : b.s.length ≤ b.n
  n : b.n ≤ 1000
def QRes (r : (Int × Int) × BS) (t : Nat) (v : AV) (H H' : AH) : Prop := H.nx ≤ H'.nx ∧ QKeep t H.o H.nx H'.o ∧ ∃ s e, v = .tup [.int .i64 s, .int .i64 e] ∧ ((r.2.n ≤ 1000 ∧ (s, e) = r.1 ∧ QAt H'.o H'.nx t r.2 false) ∨ (1000 < r.2.n ∧ ∃ b', b'.n ≤ 1000 ∧ QAt H'.o H'.nx t b' true))
def QPart (args : List AV) (H : AH) (v : AV) (H' : AH) : Prop := OkR Try.prog 35 args H v H' ∧ ∀ t b x, args = [bp t, nodeV x] → QAt H.o H.nx t b false → QRes (bPart x b) t v H H'
def QJoin (args : List AV) (H : AH) (v : AV) (H' : AH) : Prop := OkR Try.prog 55 args H v H' ∧ ∀ t b set lo hi l, args = [bp t, nodeV (.mk 4 set lo hi l)] → QAt H.o H.nx t b false → QRes (bJoin (bPartL l) b) t v H H'
theorem qpart_call {x : Nd} {t : Nat} {o : Ob} {nx : Nat} {b : BS} {K : AV × AH → Prop} (hex : ∃ v H', QPart [bp t, nodeV x] ⟨o, nx⟩ v H') (h : QAt o nx t b false)
    (hK : ∀ s e o' nx', nx ≤ nx' → QKeep t o nx o' → ((bPart x b).2.n ≤ 1000 ∧ (s, e) = (bPart x b).1 ∧ QAt o' nx' t (bPart x b).2 false ∨ 1000 < (bPart x b).2.n ∧ ∃ b', b'.n ≤ 1000 ∧ QAt o' nx' t b' true) → K (.tup [.int .i64 s, .int .i64 e], ⟨o', nx'⟩)) :
    wO (Option.map (fun p => freezeR false p.1 p.2) (cRel QPart [bp t, nodeV x] ⟨o, nx⟩)) K := by
  refine cRel_call hex fun v H' hr => ?_
  obtain ⟨h1, h2, s, e, rfl, h3⟩ := hr.2 t b x rfl h
  exact hK s e H'.o H'.nx h1 h2 h3
theorem bParts_lo {ks : List Nd} (hk : okNs ks = true) (b : BS) (out : List (Int × Int)) : b.n ≤ (bParts (bPartL ks) b out).2.n := (parts_bd (bPartL ks) b out (parts_bd' ks hk)).lo
theorem okNs_drop {ks : List Nd} (hk : okNs ks = true) (i : Nat) : okNs (ks.drop i) = true := by
  induction i generalizing ks with
  | zero => exact hk
  | succ i ih =>
    cases ks with
    | nil => rw [List.drop_nil, okNs]
    | cons x l => rw [okNs, Bool.and_eq_true] at hk; exact ih hk.2
theorem qpre_part {x : Nd} (hk : okN x = true) {b : BS} (h : QPre b) (hn : (bPart x b).2.n ≤ 1000) : QPre (bPart x b).2 := by
  have hb := part_bd x hk b
  have := hb.f4; have := hb.s1; have := hb.lo; have := h.f; have := h.s
  exact ⟨by omega, by omega, hn⟩
/-- A row that is appended to. -/
theorem IAt.fresh {D : Nat} {o : Ob} {nx : Nat} {v : AV} {l : List Int} (h : IAt D o nx v l) : v = .nil ∧ l = [] ∨ ∃ i g, v = .ref (i, D) g 0 l.length ∧ i < nx ∧ o (i, D) = some (.row ⟨3, 1, g, false, true, cI l⟩) := by
  rcases h with ⟨rfl, e1, _⟩ | ⟨i, g, rfl, hi, hrow, hlen⟩
  · exact .inl ⟨rfl, List.length_eq_zero_iff.1 e1⟩
  · exact .inr ⟨i, g, rfl, hi, hrow⟩
theorem fstL_snoc (p : List (Int × Int)) (q : Int × Int) : fstL (p ++ [q]) = fstL p ++ [q.1] := by simp [fstL]
theorem sndL_snoc (p : List (Int × Int)) (q : Int × Int) : sndL (p ++ [q]) = sndL p ++ [q.2] := by simp [sndL]
/-- One more of each row. -/
theorem qpart_app {cr : CallR} {nx0 : Nat} {out : List (Int × Int)} {s e : Int} {vf vt : AV} {a : AAct} {o : Ob} {nx : Nat} {Q : WPost} (hlen : out.length ≤ 20) (hnx : nx0 ≤ nx) (h7 : a 7 = vf) (h8 : a 8 = vt) (h12 : a 12 = .int .i64 s) (h13 : a 13 = .int .i64 e) (hf : IAt 70 o nx vf (fstL out)) (ht : IAt 74 o nx vt (sndL out)) (hff : ∀ j g n, vf = .ref (j, 70) g 0 n → nx0 ≤ j) (htf : ∀ j g n, vt = .ref (j, 74) g 0 n → nx0 ≤ j)
    (hQ : ∀ a' o' nx' vf' vt', nx ≤ nx' → IAt 70 o' nx' vf' (fstL (out ++ [(s, e)])) → IAt 74 o' nx' vt' (sndL (out ++ [(s, e)])) → (∀ j g n, vf' = .ref (j, 70) g 0 n → nx0 ≤ j) → (∀ j g n, vt' = .ref (j, 74) g 0 n → nx0 ≤ j) → a' 7 = vf' → a' 8 = vt' → (∀ u, u ≠ 7 → u ≠ 8 → u < 67 → a' u = a u) → (∀ i j, i < nx0 ∨ (j ≠ 69 ∧ j ≠ 70 ∧ j ≠ 73 ∧ j ≠ 74) → o' (i, j) = o (i, j)) → Q .normal a' o' nx') :
    WP (EX md0 (fun _ _ => none)) cr 30 (fun _ => none) (pathC [1, 1, 1, 1, 1, 1, 1, 0, 1, 0, 0, 1, 0, 0, 1, 1, 1] (Try.f35.body.getD .skip)) a o nx Q := by
  simp only [Try.f35, Option.getD_some, pathC]
  have hl : (fstL out).length = out.length := List.length_map ..
  have hl' : (sndL out).length = out.length := List.length_map ..
  have ep : ∀ (f g : Nat) (y1 y2 y3 y4 : AObj), nx0 ≤ f → nx0 ≤ g → ∀ i j, i < nx0 ∨ (j ≠ 69 ∧ j ≠ 70 ∧ j ≠ 73 ∧ j ≠ 74) → upd (upd (upd (upd o (nx, 69) y1) (f, 70) y2) (nx, 73) y3) (g, 74) y4 (i, j) = o (i, j) := fun f g y1 y2 y3 y4 hf hg i j h => by
    rcases h with h | ⟨a1, a2, a3, a4⟩
    · have e1 : i ≠ nx := by omega
      have e2 : i ≠ f := by omega
      have e3 : i ≠ g := by omega
      simp [upd_app, e1, e2, e3]
    · simp [upd_app, a1, a2, a3, a4]
  have tk1 : (cI (fstL out)).take out.length = cI (fstL out) := take_len (by rw [cI_length, hl])
  have tk2 : (cI (sndL out)).take out.length = cI (sndL out) := take_len (by rw [cI_length, hl'])
  have p1 : fstL (out ++ [(s, e)]) = fstL out ++ [s] := fstL_snoc ..
  have p2 : sndL (out ++ [(s, e)]) = sndL out ++ [e] := sndL_snoc ..
  have c1 : cI (fstL out ++ [s]) = cI (fstL out) ++ [.int .i64 s] := by rw [cI_app]; rfl
  have c2 : cI (sndL out ++ [e]) = cI (sndL out) ++ [.int .i64 e] := by rw [cI_app]; rfl
  have fin : ∀ (a' : AAct) (f g : Nat) (gf gg : Tag) (y1 y2 y3 y4 : AObj) (vf' vt' : AV), nx0 ≤ f → nx0 ≤ g → f ≤ nx → g ≤ nx → vf' = .ref (f, 70) gf 0 (out.length + 1) → vt' = .ref (g, 74) gg 0 (out.length + 1) → y2 = .row ⟨3, 1, gf, false, true, cI (fstL out) ++ [.int .i64 s]⟩ → y4 = .row ⟨3, 1, gg, false, true, cI (sndL out) ++ [.int .i64 e]⟩ → a' 7 = vf' → a' 8 = vt' → (∀ u, u ≠ 7 → u ≠ 8 → u < 67 → a' u = a u) → Q .normal a' (upd (upd (upd (upd o (nx, 69) y1) (f, 70) y2) (nx, 73) y3) (g, 74) y4) (nx + 1) := by
    intro a' f g gf gg y1 y2 y3 y4 vf' vt' b1 b2 b3 b4 e1 e2 e3 e4 e5 e6 e7
    refine hQ a' _ _ vf' vt' (by omega) (.inr ⟨f, gf, ?_, by omega, ?_, ?_⟩) (.inr ⟨g, gg, ?_, by omega, ?_, ?_⟩) ?_ ?_ e5 e6 e7 (ep f g y1 y2 y3 y4 b1 b2)
    · rw [e1, p1, List.length_append, hl]; rfl
    · rw [p1, c1, ← e3]; simp [upd_app]
    · rw [cI_length]; omega
    · rw [e2, p2, List.length_append, hl']; rfl
    · rw [p2, c2, ← e4]; simp [upd_app]
    · rw [cI_length]; omega
    · intro j g' n h; rw [e1] at h; injection h with h; injection h with h; omega
    · intro j g' n h; rw [e2] at h; injection h with h; injection h with h; omega
  rcases hf.fresh with ⟨rfl, hn1⟩ | ⟨i1, g1, rfl, hi1, hrow1⟩
  · have hz : out.length = 0 := by rw [← hl, hn1]; rfl
    rcases ht.fresh with ⟨rfl, hn2⟩ | ⟨i2, g2, rfl, hi2, hrow2⟩
    · simp (disch := omega) only [go_sem, ↓IntWalk.iteOmega, IntWalk.toNatUp, Nat.reduceEqDiff, Nat.reduceAdd, Nat.reduceMul, Nat.reduceSub, Nat.reduceLT, Nat.reduceLeDiff, Int.reduceToNat, Int.reduceLT, Int.reduceLE, Int.reduceEq, Int.reduceAdd, Int.reduceSub, Int.reduceMul, Int.toNat_natCast, reduceCtorEq, decide_true, decide_false, IntWalk.i64_in, IntWalk.u64_in, IntWalk.u8_in, h7, h8, h12, h13]
      exact fin _ nx nx (nx, 70) (nx, 74) _ _ _ _ (.ref (nx, 70) (nx, 70) 0 1) (.ref (nx, 74) (nx, 74) 0 1) (by omega) (by omega) (by omega) (by omega) (by rw [hz]) (by rw [hz]) (by rw [hn1]; rfl) (by rw [hn2]; rfl) (by simp (disch := omega) only [go_sem, ↓IntWalk.iteOmega, IntWalk.toNatUp, Nat.reduceEqDiff, Nat.reduceAdd, Nat.reduceMul, Nat.reduceSub, Nat.reduceLT, Nat.reduceLeDiff, Int.reduceToNat, Int.reduceLT, Int.reduceLE, Int.reduceEq, Int.reduceAdd, Int.reduceSub, Int.reduceMul, Int.toNat_natCast, reduceCtorEq, decide_true, decide_false, IntWalk.i64_in, IntWalk.u64_in, IntWalk.u8_in]) (by simp (disch := omega) only [go_sem, ↓IntWalk.iteOmega, IntWalk.toNatUp, Nat.reduceEqDiff, Nat.reduceAdd, Nat.reduceMul, Nat.reduceSub, Nat.reduceLT, Nat.reduceLeDiff, Int.reduceToNat, Int.reduceLT, Int.reduceLE, Int.reduceEq, Int.reduceAdd, Int.reduceSub, Int.reduceMul, Int.toNat_natCast, reduceCtorEq, decide_true, decide_false, IntWalk.i64_in, IntWalk.u64_in, IntWalk.u8_in]) (fun u u1 u2 u3 => by simp (disch := omega) only [go_sem, ↓IntWalk.iteOmega, IntWalk.toNatUp, Nat.reduceEqDiff, Nat.reduceAdd, Nat.reduceMul, Nat.reduceSub, Nat.reduceLT, Nat.reduceLeDiff, Int.reduceToNat, Int.reduceLT, Int.reduceLE, Int.reduceEq, Int.reduceAdd, Int.reduceSub, Int.reduceMul, Int.toNat_natCast, reduceCtorEq, decide_true, decide_false, IntWalk.i64_in, IntWalk.u64_in, IntWalk.u8_in, u1, u2])
    · have hj := htf _ _ _ rfl
      rw [hl'] at h8
      simp (disch := omega) only [go_sem, ↓IntWalk.iteOmega, IntWalk.toNatUp, Nat.reduceEqDiff, Nat.reduceAdd, Nat.reduceMul, Nat.reduceSub, Nat.reduceLT, Nat.reduceLeDiff, Int.reduceToNat, Int.reduceLT, Int.reduceLE, Int.reduceEq, Int.reduceAdd, Int.reduceSub, Int.reduceMul, Int.toNat_natCast, reduceCtorEq, decide_true, decide_false, IntWalk.i64_in, IntWalk.u64_in, IntWalk.u8_in, h7, h8, h12, h13, hrow2, hl', tk1, tk2]
      exact fin _ nx i2 (nx, 70) (nx, 74) _ _ _ _ (.ref (nx, 70) (nx, 70) 0 1) (.ref (i2, 74) (nx, 74) 0 (out.length + 1)) (by omega) (by omega) (by omega) (by omega) (by rw [hz]) rfl (by rw [hn1]; rfl) rfl (by simp (disch := omega) only [go_sem, ↓IntWalk.iteOmega, IntWalk.toNatUp, Nat.reduceEqDiff, Nat.reduceAdd, Nat.reduceMul, Nat.reduceSub, Nat.reduceLT, Nat.reduceLeDiff, Int.reduceToNat, Int.reduceLT, Int.reduceLE, Int.reduceEq, Int.reduceAdd, Int.reduceSub, Int.reduceMul, Int.toNat_natCast, reduceCtorEq, decide_true, decide_false, IntWalk.i64_in, IntWalk.u64_in, IntWalk.u8_in]) (by simp (disch := omega) only [go_sem, ↓IntWalk.iteOmega, IntWalk.toNatUp, Nat.reduceEqDiff, Nat.reduceAdd, Nat.reduceMul, Nat.reduceSub, Nat.reduceLT, Nat.reduceLeDiff, Int.reduceToNat, Int.reduceLT, Int.reduceLE, Int.reduceEq, Int.reduceAdd, Int.reduceSub, Int.reduceMul, Int.toNat_natCast, reduceCtorEq, decide_true, decide_false, IntWalk.i64_in, IntWalk.u64_in, IntWalk.u8_in]) (fun u u1 u2 u3 => by simp (disch := omega) only [go_sem, ↓IntWalk.iteOmega, IntWalk.toNatUp, Nat.reduceEqDiff, Nat.reduceAdd, Nat.reduceMul, Nat.reduceSub, Nat.reduceLT, Nat.reduceLeDiff, Int.reduceToNat, Int.reduceLT, Int.reduceLE, Int.reduceEq, Int.reduceAdd, Int.reduceSub, Int.reduceMul, Int.toNat_natCast, reduceCtorEq, decide_true, decide_false, IntWalk.i64_in, IntWalk.u64_in, IntWalk.u8_in, u1, u2])
  · have hj1 := hff _ _ _ rfl
    rw [hl] at h7
    rcases ht.fresh with ⟨rfl, hn2⟩ | ⟨i2, g2, rfl, hi2, hrow2⟩
    · have hz : out.length = 0 := by rw [← hl', hn2]; rfl
      simp (disch := omega) only [go_sem, ↓IntWalk.iteOmega, IntWalk.toNatUp, Nat.reduceEqDiff, Nat.reduceAdd, Nat.reduceMul, Nat.reduceSub, Nat.reduceLT, Nat.reduceLeDiff, Int.reduceToNat, Int.reduceLT, Int.reduceLE, Int.reduceEq, Int.reduceAdd, Int.reduceSub, Int.reduceMul, Int.toNat_natCast, reduceCtorEq, decide_true, decide_false, IntWalk.i64_in, IntWalk.u64_in, IntWalk.u8_in, h7, h8, h12, h13, hrow1, hl, tk1, tk2]
      exact fin _ i1 nx (nx, 70) (nx, 74) _ _ _ _ (.ref (i1, 70) (nx, 70) 0 (out.length + 1)) (.ref (nx, 74) (nx, 74) 0 1) (by omega) (by omega) (by omega) (by omega) rfl (by rw [hz]) rfl (by rw [hn2]; rfl) (by simp (disch := omega) only [go_sem, ↓IntWalk.iteOmega, IntWalk.toNatUp, Nat.reduceEqDiff, Nat.reduceAdd, Nat.reduceMul, Nat.reduceSub, Nat.reduceLT, Nat.reduceLeDiff, Int.reduceToNat, Int.reduceLT, Int.reduceLE, Int.reduceEq, Int.reduceAdd, Int.reduceSub, Int.reduceMul, Int.toNat_natCast, reduceCtorEq, decide_true, decide_false, IntWalk.i64_in, IntWalk.u64_in, IntWalk.u8_in]) (by simp (disch := omega) only [go_sem, ↓IntWalk.iteOmega, IntWalk.toNatUp, Nat.reduceEqDiff, Nat.reduceAdd, Nat.reduceMul, Nat.reduceSub, Nat.reduceLT, Nat.reduceLeDiff, Int.reduceToNat, Int.reduceLT, Int.reduceLE, Int.reduceEq, Int.reduceAdd, Int.reduceSub, Int.reduceMul, Int.toNat_natCast, reduceCtorEq, decide_true, decide_false, IntWalk.i64_in, IntWalk.u64_in, IntWalk.u8_in]) (fun u u1 u2 u3 => by simp (disch := omega) only [go_sem, ↓IntWalk.iteOmega, IntWalk.toNatUp, Nat.reduceEqDiff, Nat.reduceAdd, Nat.reduceMul, Nat.reduceSub, Nat.reduceLT, Nat.reduceLeDiff, Int.reduceToNat, Int.reduceLT, Int.reduceLE, Int.reduceEq, Int.reduceAdd, Int.reduceSub, Int.reduceMul, Int.toNat_natCast, reduceCtorEq, decide_true, decide_false, IntWalk.i64_in, IntWalk.u64_in, IntWalk.u8_in, u1, u2])
    · have hj := htf _ _ _ rfl
      rw [hl'] at h8
      simp (disch := omega) only [go_sem, ↓IntWalk.iteOmega, IntWalk.toNatUp, Nat.reduceEqDiff, Nat.reduceAdd, Nat.reduceMul, Nat.reduceSub, Nat.reduceLT, Nat.reduceLeDiff, Int.reduceToNat, Int.reduceLT, Int.reduceLE, Int.reduceEq, Int.reduceAdd, Int.reduceSub, Int.reduceMul, Int.toNat_natCast, reduceCtorEq, decide_true, decide_false, IntWalk.i64_in, IntWalk.u64_in, IntWalk.u8_in, h7, h8, h12, h13, hrow1, hrow2, hl, hl', tk1, tk2]
      exact fin _ i1 i2 (nx, 70) (nx, 74) _ _ _ _ (.ref (i1, 70) (nx, 70) 0 (out.length + 1)) (.ref (i2, 74) (nx, 74) 0 (out.length + 1)) (by omega) (by omega) (by omega) (by omega) rfl rfl rfl rfl (by simp (disch := omega) only [go_sem, ↓IntWalk.iteOmega, IntWalk.toNatUp, Nat.reduceEqDiff, Nat.reduceAdd, Nat.reduceMul, Nat.reduceSub, Nat.reduceLT, Nat.reduceLeDiff, Int.reduceToNat, Int.reduceLT, Int.reduceLE, Int.reduceEq, Int.reduceAdd, Int.reduceSub, Int.reduceMul, Int.toNat_natCast, reduceCtorEq, decide_true, decide_false, IntWalk.i64_in, IntWalk.u64_in, IntWalk.u8_in]) (by simp (disch := omega) only [go_sem, ↓IntWalk.iteOmega, IntWalk.toNatUp, Nat.reduceEqDiff, Nat.reduceAdd, Nat.reduceMul, Nat.reduceSub, Nat.reduceLT, Nat.reduceLeDiff, Int.reduceToNat, Int.reduceLT, Int.reduceLE, Int.reduceEq, Int.reduceAdd, Int.reduceSub, Int.reduceMul, Int.toNat_natCast, reduceCtorEq, decide_true, decide_false, IntWalk.i64_in, IntWalk.u64_in, IntWalk.u8_in]) (fun u u1 u2 u3 => by simp (disch := omega) only [go_sem, ↓IntWalk.iteOmega, IntWalk.toNatUp, Nat.reduceEqDiff, Nat.reduceAdd, Nat.reduceMul, Nat.reduceSub, Nat.reduceLT, Nat.reduceLeDiff, Int.reduceToNat, Int.reduceLT, Int.reduceLE, Int.reduceEq, Int.reduceAdd, Int.reduceSub, Int.reduceMul, Int.toNat_natCast, reduceCtorEq, decide_true, decide_false, IntWalk.i64_in, IntWalk.u64_in, IntWalk.u8_in, u1, u2])
theorem qpart_loop {kind set lo hi : Int} {l ks : List Nd} (hk : okNs ks = true) (hlen : ks.length ≤ 10) (hks : ∀ i, i < ks.length → 0 < l.length ∧ (kind = 5 → i < l.length ∧ ks.getD i default = l.getD i default) ∧ (kind ≠ 5 → ks.getD i default = l.getD 0 default)) (hpart : ∀ x ∈ ks, ∀ t o nx b, QAt o nx t b false → QPre b → ∃ v H', QPart [bp t, nodeV x] ⟨o, nx⟩ v H') {cr : CallR} (hP : cr 35 = cRel QPart)
    {t r : Nat} {s : Int} {o0 : Ob} {nx0 : Nat} {b0 : BS} {a : AAct} {o : Ob} {nx : Nat} {Q : WPost} (hr : nx0 ≤ r) (hrn : r < nx) (hnx : nx0 ≤ nx) (hst : QAt o nx t b0 false ∧ QPre b0 ∨ ∃ b', b'.n ≤ 1000 ∧ QAt o nx t b' true ∧ 1000 < (bParts (bPartL ks) b0 []).2.n) (ho3 : o (r, 3) = some (.row ⟨34, 1, (r, 3), false, true, [.int .i64 kind, .int .i64 set, .int .i64 lo, .int .i64 hi, slN l]⟩)) (h3 : a 3 = .ptr (r, 3) (r, 3) 0) (h7 : a 7 = .nil) (h8 : a 8 = .nil) (h9 : a 9 = .int .i64 ks.length) (h10 : a 10 = .int .i64 0) (h0 : a 0 = bp t) (h6 : a 6 = .int .i64 s) (hkp : QKeep t o0 nx0 o)
    (hQ1 : ∀ a o nx b out vf vt, nx0 ≤ nx → r < nx → QAt o nx t b false → QPre b → bParts (bPartL ks) b0 [] = (out, b) → out.length = ks.length → IAt 70 o nx vf (fstL out) → IAt 74 o nx vt (sndL out) → o (r, 3) = some (.row ⟨34, 1, (r, 3), false, true, [.int .i64 kind, .int .i64 set, .int .i64 lo, .int .i64 hi, slN l]⟩) → a 3 = .ptr (r, 3) (r, 3) 0 → a 7 = vf → a 8 = vt → a 0 = bp t → a 6 = .int .i64 s → QKeep t o0 nx0 o → Q .normal a o nx)
    (hQ2 : ∀ a o nx b', nx0 ≤ nx → QAt o nx t b' true → b'.n ≤ 1000 → 1000 < (bParts (bPartL ks) b0 []).2.n → a 0 = bp t → a 6 = .int .i64 s → QKeep t o0 nx0 o → Q .normal a o nx) :
    WP (EX md0 (fun _ _ => none)) cr 30 (fun _ => none) (pathC [1, 1, 1, 1, 1, 1, 1, 0, 1, 0] (Try.f35.body.getD .skip)) a o nx (blockQ 0 Q) := by
  simp only [Try.f35, Option.getD_some, pathC]
  refine WP_loop (fun m a o nx => ∃ (i : Nat) (vf vt : AV), i ≤ ks.length ∧ m = ks.length - i ∧ nx0 ≤ nx ∧ r < nx ∧ a 7 = vf ∧ a 8 = vt ∧ ((∃ b out, QAt o nx t b false ∧ QPre b ∧ bParts (bPartL ks) b0 [] = bParts (bPartL (ks.drop i)) b out ∧ out.length = i ∧ IAt 70 o nx vf (fstL out) ∧ IAt 74 o nx vt (sndL out) ∧ (∀ j g n, vf = .ref (j, 70) g 0 n → nx0 ≤ j) ∧ (∀ j g n, vt = .ref (j, 74) g 0 n → nx0 ≤ j)) ∨ ∃ b', b'.n ≤ 1000 ∧ QAt o nx t b' true ∧ 1000 < (bParts (bPartL ks) b0 []).2.n) ∧ o (r, 3) = some (.row ⟨34, 1, (r, 3), false, true, [.int .i64 kind, .int .i64 set, .int .i64 lo, .int .i64 hi, slN l]⟩) ∧ a 3 = .ptr (r, 3) (r, 3) 0 ∧ a 9 = .int .i64 ks.length ∧ a 10 = .int .i64 i ∧ a 0 = bp t ∧ a 6 = .int .i64 s ∧ QKeep t o0 nx0 o) ks.length (by omega) ⟨0, .nil, .nil, by omega, by omega, hnx, hrn, h7, h8, ?_, ho3, h3, h9, h10, h0, h6, hkp⟩ ?_
  · rcases hst with ⟨h1, h2⟩ | h
    · exact .inl ⟨b0, [], h1, h2, rfl, rfl, HS.nil, HS.nil, fun j g n h => (by cases h), fun j g n h => (by cases h)⟩
    · exact .inr h
  clear hst ho3 h3 h7 h8 h9 h10 h0 h6 hkp hnx hrn
  rintro m a o nx ⟨i, vf, vt, hi, rfl, hnx, hrn, h7, h8, hst, ho3, h3, h9, h10, h0, h6, hkp⟩
  rcases hst with ⟨b, out, hB, hpre, hbp, hout, hf, ht, hff, htf⟩ | ⟨b', hn', hB', hmuch⟩
  · have hB' := hB
    obtain ⟨vS, vF, hR⟩ := hB'
    have hrow := hR.row
    have htn := hR.lt
    by_cases hlt : i < ks.length
    · obtain ⟨q1, q2, q3⟩ := hks i hlt
      have hmem := nd_mem hlt
      have hx := okNs_get hk hlt
      have hdrop := bPartL_drop hlt
      obtain ⟨x, hxe⟩ : ∃ x, x = ks.getD i default := ⟨_, rfl⟩
      rw [← hxe] at hmem hx hdrop q2 q3
      rw [hdrop, bParts_cons, if_neg (by have := hpre.n; omega)] at hbp
      have hat0 : (cNds l).take 5 = cNd (l.getD 0 default) := by
        have := cNds_at q1
        rw [Nat.zero_mul, List.drop_zero] at this
        rw [this, cNd_take']
      have hl0 : (0 : Int) < l.length := by omega
      have hsl : ∀ y z i' j', j' ≠ 11 → upd (upd o (nx + 1, 11) y) (nx + 1, 11) z (i', j') = o (i', j') := fun y z i' j' h => by simp [upd_app, h]
      have hsn : ∀ y z i' j', i' < nx → upd (upd o (nx + 1, 11) y) (nx + 1, 11) z (i', j') = o (i', j') := fun y z i' j' h => by
        have : i' ≠ nx + 1 := by omega
        simp [upd_app, this]
      have hsl3 : ∀ x y z i' j', j' ≠ 11 → upd (upd (upd o (nx + 1, 11) x) (nx + 1, 11) y) (nx + 1, 11) z (i', j') = o (i', j') := fun x y z i' j' h => by simp [upd_app, h]
      have hsn3 : ∀ x y z i' j', i' < nx → upd (upd (upd o (nx + 1, 11) x) (nx + 1, 11) y) (nx + 1, 11) z (i', j') = o (i', j') := fun x y z i' j' h => by
        have : i' ≠ nx + 1 := by omega
        simp [upd_app, this]
      obtain ⟨c17, h17⟩ : ∃ c, c = pathC [1, 1, 1, 1, 1, 1, 1, 0, 1, 0, 0, 1, 0, 0, 1, 1, 1] (Try.f35.body.getD .skip) := ⟨_, rfl⟩
      have h17' := h17
      simp only [Try.f35, Option.getD_some, pathC] at h17'
      rw [← h17']
      clear h17'
      by_cases h5 : kind = 5
      · obtain ⟨q4, q5⟩ := q2 h5
        have hat := cNds_at q4
        rw [← q5] at hat
        simp (disch := omega) only [go_sem, ↓IntWalk.iteOmega, IntWalk.toNatUp, Nat.reduceEqDiff, Nat.reduceAdd, Nat.reduceMul, Nat.reduceSub, Nat.reduceLT, Nat.reduceLeDiff, Int.reduceToNat, Int.reduceLT, Int.reduceLE, Int.reduceEq, Int.reduceAdd, Int.reduceSub, Int.reduceMul, Int.toNat_natCast, reduceCtorEq, decide_true, decide_false, IntWalk.i64_in, IntWalk.u64_in, IntWalk.u8_in, h0, h3, h6, h7, h8, h9, h10, hrow, ho3, hat, hat0, hl0, hP, h5]
        refine qpart_call (hpart x hmem t _ _ b (hB.slot (fun i' j' hj' => hsl3 _ _ _ i' j' (by omega)) (by omega)) hpre) (hB.slot (fun i' j' hj' => hsl3 _ _ _ i' j' (by omega)) (by omega)) ?_
        intro s' e' o1 nx1 hle1 hk1 hres
        have k1 : QKeep t o nx o1 := (QKeep.new (hsn3 _ _ _)).trans hk1 (by omega)
        have hf1 := hf.keep (nx' := nx1) k1 (by decide) (by decide) (by decide) (by omega)
        have ht1 := ht.keep (nx' := nx1) k1 (by decide) (by decide) (by decide) (by omega)
        clear hk1
        simp (disch := omega) only [go_sem, ↓IntWalk.iteOmega, IntWalk.toNatUp, Nat.reduceEqDiff, Nat.reduceAdd, Nat.reduceMul, Nat.reduceSub, Nat.reduceLT, Nat.reduceLeDiff, Int.reduceToNat, Int.reduceLT, Int.reduceLE, Int.reduceEq, Int.reduceAdd, Int.reduceSub, Int.reduceMul, Int.toNat_natCast, reduceCtorEq, decide_true, decide_false, IntWalk.i64_in, IntWalk.u64_in, IntWalk.u8_in, h0, h3, h6, h7, h8, h9, h10]
        rw [h17]
        refine qpart_app (nx0 := nx0) (out := out) (s := s') (e := e') (by omega) (by omega) (by simp (disch := omega) only [go_sem, ↓IntWalk.iteOmega, IntWalk.toNatUp, Nat.reduceEqDiff, Nat.reduceAdd, Nat.reduceMul, Nat.reduceSub, Nat.reduceLT, Nat.reduceLeDiff, Int.reduceToNat, Int.reduceLT, Int.reduceLE, Int.reduceEq, Int.reduceAdd, Int.reduceSub, Int.reduceMul, Int.toNat_natCast, reduceCtorEq, decide_true, decide_false, IntWalk.i64_in, IntWalk.u64_in, IntWalk.u8_in, h7]) (by simp (disch := omega) only [go_sem, ↓IntWalk.iteOmega, IntWalk.toNatUp, Nat.reduceEqDiff, Nat.reduceAdd, Nat.reduceMul, Nat.reduceSub, Nat.reduceLT, Nat.reduceLeDiff, Int.reduceToNat, Int.reduceLT, Int.reduceLE, Int.reduceEq, Int.reduceAdd, Int.reduceSub, Int.reduceMul, Int.toNat_natCast, reduceCtorEq, decide_true, decide_false, IntWalk.i64_in, IntWalk.u64_in, IntWalk.u8_in, h8]) (by simp (disch := omega) only [go_sem, ↓IntWalk.iteOmega, IntWalk.toNatUp, Nat.reduceEqDiff, Nat.reduceAdd, Nat.reduceMul, Nat.reduceSub, Nat.reduceLT, Nat.reduceLeDiff, Int.reduceToNat, Int.reduceLT, Int.reduceLE, Int.reduceEq, Int.reduceAdd, Int.reduceSub, Int.reduceMul, Int.toNat_natCast, reduceCtorEq, decide_true, decide_false, IntWalk.i64_in, IntWalk.u64_in, IntWalk.u8_in]) (by simp (disch := omega) only [go_sem, ↓IntWalk.iteOmega, IntWalk.toNatUp, Nat.reduceEqDiff, Nat.reduceAdd, Nat.reduceMul, Nat.reduceSub, Nat.reduceLT, Nat.reduceLeDiff, Int.reduceToNat, Int.reduceLT, Int.reduceLE, Int.reduceEq, Int.reduceAdd, Int.reduceSub, Int.reduceMul, Int.toNat_natCast, reduceCtorEq, decide_true, decide_false, IntWalk.i64_in, IntWalk.u64_in, IntWalk.u8_in]) (hf1.slot (fun _ => rfl) (by omega)) (ht1.slot (fun _ => rfl) (by omega)) hff htf ?_
        intro a' o2 nx2 vf' vt' hle2 hf2 ht2 hff2 htf2 ha7 ha8 hau ho2
        have ga0 := hau 0 (by decide) (by decide) (by decide)
        have ga3 := hau 3 (by decide) (by decide) (by decide)
        have ga6 := hau 6 (by decide) (by decide) (by decide)
        have ga9 := hau 9 (by decide) (by decide) (by decide)
        have ga10 := hau 10 (by decide) (by decide) (by decide)
        clear hau
        simp only [put_app, Nat.reduceEqDiff, if_true, if_false, h0, h3, h6, h9, h10] at ga0 ga3 ga6 ga9 ga10
        clear h0 h3 h6 h7 h8 h9 h10 h17
        simp (disch := omega) only [go_sem, ↓IntWalk.iteOmega, IntWalk.toNatUp, Nat.reduceEqDiff, Nat.reduceAdd, Nat.reduceMul, Nat.reduceSub, Nat.reduceLT, Nat.reduceLeDiff, Int.reduceToNat, Int.reduceLT, Int.reduceLE, Int.reduceEq, Int.reduceAdd, Int.reduceSub, Int.reduceMul, Int.toNat_natCast, reduceCtorEq, decide_true, decide_false, IntWalk.i64_in, IntWalk.u64_in, IntWalk.u8_in, ga0, ga3, ga6, ga9, ga10, ha7, ha8]
        have k2 : QKeep t o0 nx0 o2 := (hkp.trans k1 hnx).trans (fun i' j' hi' _ _ _ => ho2 i' j' (.inl hi')) (by omega)
        have ho32 := (ho2 r 3 (.inr (by decide))).trans (k1.row ho3 hrn (fun e => absurd e (by decide)) (by decide) (by decide))
        have hqs : ∀ b m, QAt o1 nx1 t b m → QAt o2 (nx2 + 1) t b m := fun b m h => h.slot (fun i' j' hj' => ho2 i' j' (.inr (by omega))) (by omega)
        refine ⟨_, ?_, i + 1, vf', vt', by omega, rfl, by omega, by omega, rfl, rfl, ?_, (by rw [h5] at ho32; exact ho32), rfl, k2⟩
        · omega
        · rcases hres with ⟨u1, u2, u3⟩ | ⟨u1, b', u2, u3⟩
          · refine .inl ⟨_, out ++ [(s', e')], hqs _ _ u3, qpre_part hx.1 hpre u1, by rw [hbp, u2], by simp [hout], hf2.slot (fun _ => rfl) (by omega), ht2.slot (fun _ => rfl) (by omega), hff2, htf2⟩
          · refine .inr ⟨b', u2, hqs _ _ u3, ?_⟩
            rw [hbp]
            exact Nat.lt_of_lt_of_le u1 (bParts_lo (okNs_drop hk _) _ _)
      · have q5 := q3 h5
        rw [← q5] at hat0
        simp (disch := omega) only [go_sem, ↓IntWalk.iteOmega, IntWalk.toNatUp, Nat.reduceEqDiff, Nat.reduceAdd, Nat.reduceMul, Nat.reduceSub, Nat.reduceLT, Nat.reduceLeDiff, Int.reduceToNat, Int.reduceLT, Int.reduceLE, Int.reduceEq, Int.reduceAdd, Int.reduceSub, Int.reduceMul, Int.toNat_natCast, reduceCtorEq, decide_true, decide_false, IntWalk.i64_in, IntWalk.u64_in, IntWalk.u8_in, h0, h3, h6, h7, h8, h9, h10, hrow, ho3, hat0, hl0, hP, h5]
        refine qpart_call (hpart x hmem t _ _ b (hB.slot (fun i' j' hj' => hsl _ _ i' j' (by omega)) (by omega)) hpre) (hB.slot (fun i' j' hj' => hsl _ _ i' j' (by omega)) (by omega)) ?_
        intro s' e' o1 nx1 hle1 hk1 hres
        have k1 : QKeep t o nx o1 := (QKeep.new (hsn _ _)).trans hk1 (by omega)
        have hf1 := hf.keep (nx' := nx1) k1 (by decide) (by decide) (by decide) (by omega)
        have ht1 := ht.keep (nx' := nx1) k1 (by decide) (by decide) (by decide) (by omega)
        clear hk1
        simp (disch := omega) only [go_sem, ↓IntWalk.iteOmega, IntWalk.toNatUp, Nat.reduceEqDiff, Nat.reduceAdd, Nat.reduceMul, Nat.reduceSub, Nat.reduceLT, Nat.reduceLeDiff, Int.reduceToNat, Int.reduceLT, Int.reduceLE, Int.reduceEq, Int.reduceAdd, Int.reduceSub, Int.reduceMul, Int.toNat_natCast, reduceCtorEq, decide_true, decide_false, IntWalk.i64_in, IntWalk.u64_in, IntWalk.u8_in, h0, h3, h6, h7, h8, h9, h10]
        rw [h17]
        refine qpart_app (nx0 := nx0) (out := out) (s := s') (e := e') (by omega) (by omega) (by simp (disch := omega) only [go_sem, ↓IntWalk.iteOmega, IntWalk.toNatUp, Nat.reduceEqDiff, Nat.reduceAdd, Nat.reduceMul, Nat.reduceSub, Nat.reduceLT, Nat.reduceLeDiff, Int.reduceToNat, Int.reduceLT, Int.reduceLE, Int.reduceEq, Int.reduceAdd, Int.reduceSub, Int.reduceMul, Int.toNat_natCast, reduceCtorEq, decide_true, decide_false, IntWalk.i64_in, IntWalk.u64_in, IntWalk.u8_in, h7]) (by simp (disch := omega) only [go_sem, ↓IntWalk.iteOmega, IntWalk.toNatUp, Nat.reduceEqDiff, Nat.reduceAdd, Nat.reduceMul, Nat.reduceSub, Nat.reduceLT, Nat.reduceLeDiff, Int.reduceToNat, Int.reduceLT, Int.reduceLE, Int.reduceEq, Int.reduceAdd, Int.reduceSub, Int.reduceMul, Int.toNat_natCast, reduceCtorEq, decide_true, decide_false, IntWalk.i64_in, IntWalk.u64_in, IntWalk.u8_in, h8]) (by simp (disch := omega) only [go_sem, ↓IntWalk.iteOmega, IntWalk.toNatUp, Nat.reduceEqDiff, Nat.reduceAdd, Nat.reduceMul, Nat.reduceSub, Nat.reduceLT, Nat.reduceLeDiff, Int.reduceToNat, Int.reduceLT, Int.reduceLE, Int.reduceEq, Int.reduceAdd, Int.reduceSub, Int.reduceMul, Int.toNat_natCast, reduceCtorEq, decide_true, decide_false, IntWalk.i64_in, IntWalk.u64_in, IntWalk.u8_in]) (by simp (disch := omega) only [go_sem, ↓IntWalk.iteOmega, IntWalk.toNatUp, Nat.reduceEqDiff, Nat.reduceAdd, Nat.reduceMul, Nat.reduceSub, Nat.reduceLT, Nat.reduceLeDiff, Int.reduceToNat, Int.reduceLT, Int.reduceLE, Int.reduceEq, Int.reduceAdd, Int.reduceSub, Int.reduceMul, Int.toNat_natCast, reduceCtorEq, decide_true, decide_false, IntWalk.i64_in, IntWalk.u64_in, IntWalk.u8_in]) (hf1.slot (fun _ => rfl) (by omega)) (ht1.slot (fun _ => rfl) (by omega)) hff htf ?_
        intro a' o2 nx2 vf' vt' hle2 hf2 ht2 hff2 htf2 ha7 ha8 hau ho2
        have ga0 := hau 0 (by decide) (by decide) (by decide)
        have ga3 := hau 3 (by decide) (by decide) (by decide)
        have ga6 := hau 6 (by decide) (by decide) (by decide)
        have ga9 := hau 9 (by decide) (by decide) (by decide)
        have ga10 := hau 10 (by decide) (by decide) (by decide)
        clear hau
        simp only [put_app, Nat.reduceEqDiff, if_true, if_false, h0, h3, h6, h9, h10] at ga0 ga3 ga6 ga9 ga10
        clear h0 h3 h6 h7 h8 h9 h10 h17
        simp (disch := omega) only [go_sem, ↓IntWalk.iteOmega, IntWalk.toNatUp, Nat.reduceEqDiff, Nat.reduceAdd, Nat.reduceMul, Nat.reduceSub, Nat.reduceLT, Nat.reduceLeDiff, Int.reduceToNat, Int.reduceLT, Int.reduceLE, Int.reduceEq, Int.reduceAdd, Int.reduceSub, Int.reduceMul, Int.toNat_natCast, reduceCtorEq, decide_true, decide_false, IntWalk.i64_in, IntWalk.u64_in, IntWalk.u8_in, ga0, ga3, ga6, ga9, ga10, ha7, ha8]
        have k2 : QKeep t o0 nx0 o2 := (hkp.trans k1 hnx).trans (fun i' j' hi' _ _ _ => ho2 i' j' (.inl hi')) (by omega)
        have ho32 := (ho2 r 3 (.inr (by decide))).trans (k1.row ho3 hrn (fun e => absurd e (by decide)) (by decide) (by decide))
        have hqs : ∀ b m, QAt o1 nx1 t b m → QAt o2 (nx2 + 1) t b m := fun b m h => h.slot (fun i' j' hj' => ho2 i' j' (.inr (by omega))) (by omega)
        refine ⟨_, ?_, i + 1, vf', vt', by omega, rfl, by omega, by omega, rfl, rfl, ?_, ho32, rfl, k2⟩
        · omega
        · rcases hres with ⟨u1, u2, u3⟩ | ⟨u1, b', u2, u3⟩
          · refine .inl ⟨_, out ++ [(s', e')], hqs _ _ u3, qpre_part hx.1 hpre u1, by rw [hbp, u2], by simp [hout], hf2.slot (fun _ => rfl) (by omega), ht2.slot (fun _ => rfl) (by omega), hff2, htf2⟩
          · refine .inr ⟨b', u2, hqs _ _ u3, ?_⟩
            rw [hbp]
            exact Nat.lt_of_lt_of_le u1 (bParts_lo (okNs_drop hk _) _ _)
    · have hdr : ks.drop i = [] := List.drop_of_length_le (by omega)
      rw [hdr, bPartL, bParts] at hbp
      simp (disch := omega) only [go_sem, ↓IntWalk.iteOmega, IntWalk.toNatUp, Nat.reduceEqDiff, Nat.reduceAdd, Nat.reduceMul, Nat.reduceSub, Nat.reduceLT, Nat.reduceLeDiff, Int.reduceToNat, Int.reduceLT, Int.reduceLE, Int.reduceEq, Int.reduceAdd, Int.reduceSub, Int.reduceMul, Int.toNat_natCast, reduceCtorEq, decide_true, decide_false, IntWalk.i64_in, IntWalk.u64_in, IntWalk.u8_in, h0, h3, h6, h7, h8, h9, h10, hrow]
      exact hQ1 _ _ _ b out vf vt (by omega) (by omega) (hB.new (fun _ _ _ => rfl) (by omega)) hpre hbp (by omega) (hf.slot (fun _ => rfl) (by omega)) (ht.slot (fun _ => rfl) (by omega)) ho3 (by simp (disch := omega) only [go_sem, ↓IntWalk.iteOmega, IntWalk.toNatUp, Nat.reduceEqDiff, Nat.reduceAdd, Nat.reduceMul, Nat.reduceSub, Nat.reduceLT, Nat.reduceLeDiff, Int.reduceToNat, Int.reduceLT, Int.reduceLE, Int.reduceEq, Int.reduceAdd, Int.reduceSub, Int.reduceMul, Int.toNat_natCast, reduceCtorEq, decide_true, decide_false, IntWalk.i64_in, IntWalk.u64_in, IntWalk.u8_in, h3]) (by simp (disch := omega) only [go_sem, ↓IntWalk.iteOmega, IntWalk.toNatUp, Nat.reduceEqDiff, Nat.reduceAdd, Nat.reduceMul, Nat.reduceSub, Nat.reduceLT, Nat.reduceLeDiff, Int.reduceToNat, Int.reduceLT, Int.reduceLE, Int.reduceEq, Int.reduceAdd, Int.reduceSub, Int.reduceMul, Int.toNat_natCast, reduceCtorEq, decide_true, decide_false, IntWalk.i64_in, IntWalk.u64_in, IntWalk.u8_in, h7]) (by simp (disch := omega) only [go_sem, ↓IntWalk.iteOmega, IntWalk.toNatUp, Nat.reduceEqDiff, Nat.reduceAdd, Nat.reduceMul, Nat.reduceSub, Nat.reduceLT, Nat.reduceLeDiff, Int.reduceToNat, Int.reduceLT, Int.reduceLE, Int.reduceEq, Int.reduceAdd, Int.reduceSub, Int.reduceMul, Int.toNat_natCast, reduceCtorEq, decide_true, decide_false, IntWalk.i64_in, IntWalk.u64_in, IntWalk.u8_in, h8]) (by simp (disch := omega) only [go_sem, ↓IntWalk.iteOmega, IntWalk.toNatUp, Nat.reduceEqDiff, Nat.reduceAdd, Nat.reduceMul, Nat.reduceSub, Nat.reduceLT, Nat.reduceLeDiff, Int.reduceToNat, Int.reduceLT, Int.reduceLE, Int.reduceEq, Int.reduceAdd, Int.reduceSub, Int.reduceMul, Int.toNat_natCast, reduceCtorEq, decide_true, decide_false, IntWalk.i64_in, IntWalk.u64_in, IntWalk.u8_in, h0]) (by simp (disch := omega) only [go_sem, ↓IntWalk.iteOmega, IntWalk.toNatUp, Nat.reduceEqDiff, Nat.reduceAdd, Nat.reduceMul, Nat.reduceSub, Nat.reduceLT, Nat.reduceLeDiff, Int.reduceToNat, Int.reduceLT, Int.reduceLE, Int.reduceEq, Int.reduceAdd, Int.reduceSub, Int.reduceMul, Int.toNat_natCast, reduceCtorEq, decide_true, decide_false, IntWalk.i64_in, IntWalk.u64_in, IntWalk.u8_in, h6]) hkp
  · have hB'' := hB'
    obtain ⟨vS, vF, hR⟩ := hB''
    have hrow := hR.row
    by_cases hlt : i < ks.length
    · simp (disch := omega) only [go_sem, ↓IntWalk.iteOmega, IntWalk.toNatUp, Nat.reduceEqDiff, Nat.reduceAdd, Nat.reduceMul, Nat.reduceSub, Nat.reduceLT, Nat.reduceLeDiff, Int.reduceToNat, Int.reduceLT, Int.reduceLE, Int.reduceEq, Int.reduceAdd, Int.reduceSub, Int.reduceMul, Int.toNat_natCast, reduceCtorEq, decide_true, decide_false, IntWalk.i64_in, IntWalk.u64_in, IntWalk.u8_in, h0, h3, h6, h7, h8, h9, h10, hrow]
      exact hQ2 _ _ _ b' (by omega) (hB'.new (fun _ _ _ => rfl) (by omega)) hn' hmuch (by simp (disch := omega) only [go_sem, ↓IntWalk.iteOmega, IntWalk.toNatUp, Nat.reduceEqDiff, Nat.reduceAdd, Nat.reduceMul, Nat.reduceSub, Nat.reduceLT, Nat.reduceLeDiff, Int.reduceToNat, Int.reduceLT, Int.reduceLE, Int.reduceEq, Int.reduceAdd, Int.reduceSub, Int.reduceMul, Int.toNat_natCast, reduceCtorEq, decide_true, decide_false, IntWalk.i64_in, IntWalk.u64_in, IntWalk.u8_in, h0]) (by simp (disch := omega) only [go_sem, ↓IntWalk.iteOmega, IntWalk.toNatUp, Nat.reduceEqDiff, Nat.reduceAdd, Nat.reduceMul, Nat.reduceSub, Nat.reduceLT, Nat.reduceLeDiff, Int.reduceToNat, Int.reduceLT, Int.reduceLE, Int.reduceEq, Int.reduceAdd, Int.reduceSub, Int.reduceMul, Int.toNat_natCast, reduceCtorEq, decide_true, decide_false, IntWalk.i64_in, IntWalk.u64_in, IntWalk.u8_in, h6]) hkp
    · simp (disch := omega) only [go_sem, ↓IntWalk.iteOmega, IntWalk.toNatUp, Nat.reduceEqDiff, Nat.reduceAdd, Nat.reduceMul, Nat.reduceSub, Nat.reduceLT, Nat.reduceLeDiff, Int.reduceToNat, Int.reduceLT, Int.reduceLE, Int.reduceEq, Int.reduceAdd, Int.reduceSub, Int.reduceMul, Int.toNat_natCast, reduceCtorEq, decide_true, decide_false, IntWalk.i64_in, IntWalk.u64_in, IntWalk.u8_in, h0, h3, h6, h7, h8, h9, h10, hrow]
      exact hQ2 _ _ _ b' (by omega) (hB'.new (fun _ _ _ => rfl) (by omega)) hn' hmuch (by simp (disch := omega) only [go_sem, ↓IntWalk.iteOmega, IntWalk.toNatUp, Nat.reduceEqDiff, Nat.reduceAdd, Nat.reduceMul, Nat.reduceSub, Nat.reduceLT, Nat.reduceLeDiff, Int.reduceToNat, Int.reduceLT, Int.reduceLE, Int.reduceEq, Int.reduceAdd, Int.reduceSub, Int.reduceMul, Int.toNat_natCast, reduceCtorEq, decide_true, decide_false, IntWalk.i64_in, IntWalk.u64_in, IntWalk.u8_in, h0]) (by simp (disch := omega) only [go_sem, ↓IntWalk.iteOmega, IntWalk.toNatUp, Nat.reduceEqDiff, Nat.reduceAdd, Nat.reduceMul, Nat.reduceSub, Nat.reduceLT, Nat.reduceLeDiff, Int.reduceToNat, Int.reduceLT, Int.reduceLE, Int.reduceEq, Int.reduceAdd, Int.reduceSub, Int.reduceMul, Int.toNat_natCast, reduceCtorEq, decide_true, decide_false, IntWalk.i64_in, IntWalk.u64_in, IntWalk.u8_in, h6]) hkp
end Go.Proofs.Ytcaemgpificohaa.A
/- The document's builder: part, join. -/
namespace Go.Proofs.Ytcaemgpificohaa.A
open Go
set_option maxRecDepth 20000
mutual
/-- What both builders build alike. -/
def okQ : Nd → Bool
  | .mk kind _ lo hi l => okQs l && (if kind = 4 ∨ kind = 5 then decide (0 < l.length ∧ l.length ≤ 10) else if kind = 6 ∨ kind = 7 ∨ kind = 8 then decide (l.length = 1) else if kind = 9 then decide (0 < l.length ∧ l.length ≤ 10 ∧ 0 ≤ lo ∧ lo ≤ hi ∧ hi ≤ 10) else decide (l.length = 0))
def okQs : List Nd → Bool
  | [] => true
  | x :: l => okQ x && okQs l
end
mutual
theorem okQ_N : ∀ (x : Nd), okQ x = true → okN x = true
  | .mk kind set lo hi l, h => by
    rw [okQ, Bool.and_eq_true] at h
    rw [okN, okQs_Ns l h.1, Bool.true_and]
    have h2 := h.2
    by_cases k4 : kind = 4 ∨ kind = 5
    · rw [if_pos k4] at h2
      rw [if_pos (by omega)]; exact h2
    rw [if_neg k4] at h2
    by_cases k6 : kind = 6 ∨ kind = 7 ∨ kind = 8
    · rw [if_pos k6, decide_eq_true_eq] at h2
      rw [if_pos (by omega), decide_eq_true_eq]; omega
    rw [if_neg k6] at h2
    rw [if_neg (by omega)]
    by_cases k9 : kind = 9
    · rw [if_pos k9] at h2 ⊢; exact h2
    · rw [if_neg k9]
theorem okQs_Ns : ∀ (l : List Nd), okQs l = true → okNs l = true
  | [], _ => by rw [okNs]
  | x :: l, h => by
    rw [okQs, Bool.and_eq_true] at h
    rw [okNs, okQ_N x h.1, okQs_Ns l h.2]; rfl
end
/-- The parts that are built in a row. -/
def ksOf (kind hi : Int) (l : List Nd) : List Nd := if kind = 9 then List.replicate hi.toNat (l.getD 0 default) else l
theorem part_as_lead {kind set lo hi : Int} {l : List Nd} (hk : okQ (.mk kind set lo hi l) = true) (h4 : kind ≠ 4) (b : BS) :
    ((bParts (bPartL (ksOf kind hi l)) b.state []).2.n < 1000 → bPart (.mk kind set lo hi l) b = (((b.n : Int), ((bParts (bPartL (ksOf kind hi l)) b.state []).2.n : Int)), leadB kind set lo b.n (bParts (bPartL (ksOf kind hi l)) b.state []).2.n (bParts (bPartL (ksOf kind hi l)) b.state []).1 (bParts (bPartL (ksOf kind hi l)) b.state []).2.state)) ∧
    (1000 ≤ (bParts (bPartL (ksOf kind hi l)) b.state []).2.n → 1000 < (bPart (.mk kind set lo hi l) b).2.n) := by
  rw [okQ, Bool.and_eq_true] at hk
  obtain ⟨hk1, hk2⟩ := hk
  have hkn := okQs_Ns l hk1
  have once : ∀ (x : Nd) (ar bk : Bool), okN x = true → ((bParts (bPartL [x]) b.state []).2.n < 1000 → (bParts (bPartL [x]) b.state []) = ([(bPart x b.state).1], (bPart x b.state).2)) ∧ (1000 ≤ (bParts (bPartL [x]) b.state []).2.n → 1000 < (bOnce (bPart x) ar bk b).2.n) := by
    intro x ar bk hx
    have e : bParts (bPartL [x]) b.state [] = if b.state.n > 1000 then ([], b.state) else ([(bPart x b.state).1], (bPart x b.state).2) := by
      rw [bPartL, bPartL, bParts_cons, bParts]; rfl
    rw [e]
    have e2 : (bOnce (bPart x) ar bk b).2.n = (bPart x b.state).2.n + 1 := rfl
    have := (part_bd x hx b.state).lo
    refine ⟨fun h => ?_, fun h => ?_⟩
    · split at h
      · rename_i h'; exact absurd h (by show ¬ b.state.n < 1000; omega)
      · rename_i h'; rw [if_neg h']
    · rw [e2]
      split at h
      · omega
      · have h : 1000 ≤ (bPart x b.state).2.n := h
        omega
  rw [bPart, bNode, if_neg h4]
  by_cases k9 : kind = 9
  · subst k9
    rw [if_neg (by decide), if_neg (by decide), if_pos rfl, decide_eq_true_eq] at hk2
    obtain ⟨x, m, rfl⟩ := List.exists_cons_of_length_pos hk2.1
    have e1 : ksOf 9 hi (x :: m) = List.replicate hi.toNat x := rfl
    rw [e1, bPartL_rep, if_neg (by decide), if_neg (by decide), if_neg (by decide), if_neg (by decide), if_pos rfl, bPartL]
    obtain ⟨r, hr⟩ : ∃ r, r = bParts (List.replicate hi.toNat (bPart x)) b.state [] := ⟨_, rfl⟩
    have hb : bRepeat lo hi.toNat (bPart x) b = if r.2.state.n > 1000 then (((b.n : Int), (r.2.n : Int)), r.2.state) else (((b.n : Int), (r.2.n : Int)), r.2.state.frees (headL b.n r.1 ++ rLinks lo r.2.n 0 r.1 ++ (if lo = 0 then [((b.n : Int), (r.2.n : Int))] else []))) := by rw [hr]; rfl
    have es : r.2.state.n = r.2.n + 1 := rfl
    rw [← hr]
    show (_ → bRepeat lo hi.toNat (bPart x) b = _) ∧ (_ → 1000 < (bRepeat lo hi.toNat (bPart x) b).2.n)
    rw [hb]
    refine ⟨fun h => ?_, fun h => ?_⟩
    · rw [if_neg (by omega)]; rfl
    · rw [if_pos (by omega)]; show 1000 < r.2.state.n; omega
  have e1 : ksOf kind hi l = l := if_neg k9
  rw [e1]
  by_cases k5 : kind = 5
  · subst k5
    rw [if_pos rfl]
    refine ⟨fun h => rfl, fun h => ?_⟩
    show 1000 < (bParts (bPartL l) b.state []).2.n + 1
    omega
  rw [if_neg k5]
  by_cases k6 : kind = 6 ∨ kind = 7 ∨ kind = 8
  · rw [if_neg (by omega), if_pos k6, decide_eq_true_eq] at hk2
    obtain ⟨x, m, rfl⟩ := List.exists_cons_of_length_pos (show 0 < l.length by omega)
    have hm : m = [] := by simpa using hk2
    subst hm
    rw [okNs, Bool.and_eq_true] at hkn
    have hh : (bPartL [x]).headD (fun b => ((0, 0), b)) = bPart x := by rw [bPartL]; rfl
    rw [hh]
    rcases k6 with rfl | rfl | rfl
    · rw [if_pos rfl]
      refine ⟨fun h => ?_, (once x _ _ hkn.1).2⟩
      rw [(once x true true hkn.1).1 h]; rfl
    · rw [if_neg (by decide), if_pos rfl]
      refine ⟨fun h => ?_, (once x _ _ hkn.1).2⟩
      rw [(once x true true hkn.1).1 h]; rfl
    · rw [if_neg (by decide), if_neg (by decide), if_pos rfl]
      refine ⟨fun h => ?_, (once x _ _ hkn.1).2⟩
      rw [(once x true true hkn.1).1 h]; rfl
  · rw [if_neg (by omega), if_neg k6, if_neg k9, decide_eq_true_eq] at hk2
    have hl : l = [] := List.length_eq_zero_iff.1 hk2
    subst hl
    rw [if_neg (fun h => k6 (.inl h)), if_neg (fun h => k6 (.inr (.inl h))), if_neg (fun h => k6 (.inr (.inr h))), if_neg k9, bPartL, bParts]
    have e2 : ((b.state.n : Nat) : Int) = (b.n : Int) + 1 := by show ((b.n + 1 : Nat) : Int) = _; omega
    have e3 : (bLeaf kind set b).2.n = b.n + 2 := by
      unfold bLeaf; dsimp only; split
      · rfl
      · split <;> rfl
    refine ⟨fun h => ?_, fun h => by rw [e3]; have h : 1000 ≤ b.n + 1 := h; omega⟩
    show bLeaf kind set b = (((b.n : Int), ((b.state.n : Nat) : Int)), leadB kind set lo b.n (b.state.n : Nat) [] b.state.state)
    rw [e2]
    unfold bLeaf leadB
    by_cases k1 : kind = 1
    · rw [if_pos k1, if_pos k1]
    by_cases k3 : kind = 3
    · rw [if_neg k1, if_pos k3, if_neg k1, if_pos k3]
    rw [if_neg k1, if_neg k3, if_neg k1, if_neg k3, if_neg k5, if_neg (fun h => k6 (.inl h)), if_neg (fun h => k6 (.inr (.inl h))), if_neg (fun h => k6 (.inr (.inr h))), if_neg k9]
theorem qState_much (b : BS) (h : b.n ≤ 1000) : (qState b true).2.2 = true ∧ (qState b true).2.1.n ≤ 1000 := by
  unfold qState
  split
  · exact ⟨rfl, h⟩
  · exact ⟨rfl, by show b.n + 1 ≤ 1000; omega⟩
theorem leadB_n (kind set lo s e : Int) (p : List (Int × Int)) (b : BS) : (leadB kind set lo s e p b).n = b.n := by
  unfold leadB
  repeat (first | rfl | split)
noncomputable abbrev tabQPart : List (FuncId × (List AV → AH → Option (AV × AH))) := [(35, cRel QPart), (55, cRel QJoin), (56, cRel QState), (57, cRel QLead), (63, cRel QFree)]
theorem crQPart_ok : CRSound Try.prog (tabLookR tabQPart) ∧ Up (tabLookR tabQPart) :=
  tabR_cons (tabR_cons (tabR_cons (tabR_cons (tabR_cons (tabR_nil _) fun args H v H' h => (cRel_some h).1) fun args H v H' h => (cRel_some h).1) fun args H v H' h => (cRel_some h).1) fun args H v H' h => (cRel_some h).1) fun args H v H' h => (cRel_some h).1
theorem lookQPart (X) : lookedAt (EX md0 X) (fun _ => none) 2 Try.f35 = true := by kernel_rfl
theorem ksOf_facts {kind set lo hi : Int} {l : List Nd} (hk : okQ (.mk kind set lo hi l) = true) (h4 : kind ≠ 4) : okNs (ksOf kind hi l) = true ∧ (ksOf kind hi l).length ≤ 10 ∧ (∀ x ∈ ksOf kind hi l, x ∈ l) ∧ (∀ i, i < (ksOf kind hi l).length → 0 < l.length ∧ (kind = 5 → i < l.length ∧ (ksOf kind hi l).getD i default = l.getD i default) ∧ (kind ≠ 5 → (ksOf kind hi l).getD i default = l.getD 0 default)) ∧ (((ksOf kind hi l).length : Int) = if kind = 9 then hi else (l.length : Int)) ∧ (kind = 6 ∨ kind = 7 ∨ kind = 8 → (ksOf kind hi l).length = 1) ∧ (kind = 9 → (0 ≤ lo ∧ lo ≤ 10) ∧ (0 < hi ↔ 0 < (ksOf kind hi l).length)) := by
  rw [okQ, Bool.and_eq_true] at hk
  obtain ⟨hk1, hk2⟩ := hk
  have hkn := okQs_Ns l hk1
  by_cases k9 : kind = 9
  · rw [if_neg (by omega), if_neg (by omega), if_pos k9, decide_eq_true_eq] at hk2
    obtain ⟨x, m, rfl⟩ := List.exists_cons_of_length_pos hk2.1
    have e1 : ksOf kind hi (x :: m) = List.replicate hi.toNat x := by rw [ksOf, if_pos k9]; rfl
    rw [okNs, Bool.and_eq_true] at hkn
    rw [e1, List.length_replicate, if_pos k9]
    refine ⟨okNs_rep hkn.1 _, by omega, fun y hy => by rw [List.eq_of_mem_replicate hy]; exact List.mem_cons_self, fun i hi' => ⟨by simp, fun h => by omega, fun _ => ?_⟩, by omega, fun h => by omega, fun _ => ⟨by omega, by omega⟩⟩
    simp [List.getD, List.getElem?_replicate, hi']
  · have e1 : ksOf kind hi l = l := if_neg k9
    rw [e1, if_neg k9]
    refine ⟨hkn, ?_, fun _ h => h, fun i hi' => ⟨by omega, fun _ => ⟨hi', rfl⟩, fun h5 => ?_⟩, rfl, fun h => ?_, fun h => absurd h k9⟩
    · by_cases k5 : kind = 4 ∨ kind = 5
      · rw [if_pos k5, decide_eq_true_eq] at hk2; omega
      rw [if_neg k5] at hk2
      by_cases k6 : kind = 6 ∨ kind = 7 ∨ kind = 8
      · rw [if_pos k6, decide_eq_true_eq] at hk2; omega
      rw [if_neg k6, if_neg k9, decide_eq_true_eq] at hk2; omega
    · rw [if_neg (by omega)] at hk2
      by_cases k6 : kind = 6 ∨ kind = 7 ∨ kind = 8
      · rw [if_pos k6, decide_eq_true_eq] at hk2
        rw [show i = 0 by omega]
      · rw [if_neg k6, if_neg k9, decide_eq_true_eq] at hk2; omega
    · rw [if_neg (by omega), if_pos h, decide_eq_true_eq] at hk2; exact hk2
theorem qpart_ok {kind set lo hi : Int} {l : List Nd} (hk : okQ (.mk kind set lo hi l) = true) (h4 : kind ≠ 4) (hpart : ∀ x ∈ l, ∀ t o nx b, QAt o nx t b false → QPre b → ∃ v H', QPart [bp t, nodeV x] ⟨o, nx⟩ v H') {t : Nat} {o : Ob} {nx : Nat} {b : BS} (h : QAt o nx t b false) (hp : QPre b) :
    ∃ v H', QPart [bp t, nodeV (.mk kind set lo hi l)] ⟨o, nx⟩ v H' := by
  obtain ⟨cr, hcr⟩ : ∃ cr, cr = tabLookR tabQPart := ⟨_, rfl⟩
  have hP : cr 35 = cRel QPart := by rw [hcr]; rfl
  have hS : cr 56 = cRel QState := by rw [hcr]; rfl
  have hL : cr 57 = cRel QLead := by rw [hcr]; rfl
  obtain ⟨f1, f2, f3, f4, f5, f6, f7⟩ := ksOf_facts hk h4
  obtain ⟨pA, pB⟩ := part_as_lead hk h4 b
  obtain ⟨ks, hks⟩ : ∃ ks, ks = ksOf kind hi l := ⟨_, rfl⟩
  rw [← hks] at f1 f2 f3 f4 f5 f6 f7 pA pB
  have hpart' : ∀ x ∈ ks, ∀ t o nx b, QAt o nx t b false → QPre b → ∃ v H', QPart [bp t, nodeV x] ⟨o, nx⟩ v H' := fun x hx => hpart x (f3 x hx)
  obtain ⟨z, hz⟩ : ∃ z, z = bPart (.mk kind set lo hi l) b := ⟨_, rfl⟩
  rw [← hz] at pA pB
  obtain ⟨v, H', h1, h2⟩ := okR_of_WP (E := EX md0 (fun _ _ => none)) (cr := cr) (cp_none _) (hcr ▸ crQPart_ok) mixed (k := 30) (args := [bp t, nodeV (.mk kind set lo hi l)]) (o := o) (nx := nx) (Post := fun v o' nx' => QRes z t v ⟨o, nx⟩ ⟨o', nx'⟩) Try.func35 (lookQPart _) rfl (by
    clear hcr
    have hnew : ∀ y, ∀ i j, i < nx → upd o (nx, 3) y (i, j) = o (i, j) := fun y i j hi => by simp (disch := omega) only [upd_fst]
    have hlo := bParts_lo f1 b.state []
    have es : b.state.n = b.n + 1 := rfl
    have hpn := hp.n
    have hpf := hp.f
    have hps := hp.s
    have hrow := h
    obtain ⟨vS, vF, hrow⟩ := hrow
    have htn := hrow.lt
    replace hrow := hrow.row
    simp only [Try.f35, Option.getD_some]
    simp (disch := omega) only [go_sem, ↓IntWalk.iteOmega, IntWalk.toNatUp, Nat.reduceEqDiff, Nat.reduceAdd, Nat.reduceMul, Nat.reduceSub, Nat.reduceLT, Nat.reduceLeDiff, Int.reduceToNat, Int.reduceLT, Int.reduceLE, Int.reduceEq, Int.reduceAdd, Int.reduceSub, Int.reduceMul, Int.toNat_natCast, reduceCtorEq, decide_true, decide_false, IntWalk.i64_in, IntWalk.u64_in, IntWalk.u8_in, hS, hrow, h4]
    refine qstate_call (h.new (hnew _) (by omega)) hpn ?_
    intro o1 nx1 hle1 hB1 hk1
    have hx3 : o1 (nx, 3) = some (.row ⟨34, 1, (nx, 3), false, true, [.int .i64 kind, .int .i64 set, .int .i64 lo, .int .i64 hi, slN l]⟩) := by rw [hk1 _ _ (by omega) (fun e => absurd e (by decide)) (by decide) (by decide)]; simp [upd_app]
    have k1 : QKeep t o nx o1 := (QKeep.new (hnew _)).trans hk1 (by omega)
    clear hk1 hrow
    obtain ⟨s0, hs0⟩ : ∃ s0, s0 = (qState b false).1 := ⟨_, rfl⟩
    rw [← hs0]
    have hst : QAt o1 nx1 t b.state false ∧ QPre b.state ∧ s0 = b.n ∨ ∃ b', b'.n ≤ 1000 ∧ QAt o1 nx1 t b' true ∧ 1000 < (bParts (bPartL ks) b.state []).2.n := by
      by_cases hb : b.n ≥ 1000
      · rw [show qState b false = (0, b, true) from if_pos hb] at hB1
        exact .inr ⟨b, hpn, hB1, by omega⟩
      · have e : qState b false = ((b.n : Int), b.state, false) := if_neg hb
        rw [e] at hB1 hs0
        exact .inl ⟨hB1, ⟨by show b.f.length ≤ _; omega, by show b.s.length ≤ _; omega, by omega⟩, hs0⟩
    clear hB1 hs0 hlo
    obtain ⟨c18, h18⟩ : ∃ c, c = pathC [1, 1, 1, 1, 1, 1, 1, 1] (Try.f35.body.getD .skip) := ⟨_, rfl⟩
    have h18' := h18
    simp only [Try.f35, Option.getD_some, pathC] at h18'
    have loop : ∀ (a : AAct) (o2 : Ob) (nx2 : Nat) (Q : WPost), nx1 ≤ nx2 → o2 = o1 → a 3 = .ptr (nx, 3) (nx, 3) 0 → a 7 = .nil → a 8 = .nil → a 9 = .int .i64 ks.length → a 10 = .int .i64 0 → a 0 = bp t → a 6 = .int .i64 s0 →
        (∀ (a : AAct) (o' : Ob) (nx' : Nat) (v : AV × AV), a 4 = v.1 → a 5 = v.2 → QRes z t (.tup [v.1, v.2]) ⟨o, nx⟩ ⟨o', nx'⟩ → Q .ret a o' nx') → WP (EX md0 (fun _ _ => none)) cr 30 (fun _ => none) (pathC [1, 1, 1, 1, 1, 1, 1, 0, 1, 0] (Try.f35.body.getD .skip)) a o2 nx2 (blockQ 0 (thenQ (EX md0 (fun _ _ => none)) cr 30 (fun _ => none) c18 Q)) := by
      intro a o2 nx2 Q hle2 ho2 h3 h7 h8 h9 h10 h0 h6 hQ
      subst ho2
      refine qpart_loop (s := s0) (b0 := b.state) (o0 := o) (nx0 := nx) f1 f2 f4 hpart' hP (Nat.le_refl nx) (by omega) (by omega) (hst.imp (fun ⟨u1, u2, _⟩ => ⟨u1.new (fun _ _ _ => rfl) hle2, u2⟩) (fun ⟨b', u1, u2, u3⟩ => ⟨b', u1, u2.new (fun _ _ _ => rfl) hle2, u3⟩)) hx3 h3 h7 h8 h9 h10 h0 h6 k1 ?_ ?_
      · clear h3 h7 h8 h9 h10 h0 h6
        intro a o3 nx3 b3 out vf vt hnx3 hrn3 hB3 hp3 hbp hout hf ht hx3 h3 h7 h8 h0 h6 k3
        rw [hbp] at pA pB hst
        dsimp only at pA pB hst
        rcases hst with ⟨_, _, hs0⟩ | ⟨_, _, _, hm⟩
        · rw [h18]
          simp only [Try.f35, Option.getD_some, pathC]
          have hp3n := hp3.n
          have hp3f := hp3.f
          have hp3s := hp3.s
          simp (disch := omega) only [go_sem, ↓IntWalk.iteOmega, IntWalk.toNatUp, Nat.reduceEqDiff, Nat.reduceAdd, Nat.reduceMul, Nat.reduceSub, Nat.reduceLT, Nat.reduceLeDiff, Int.reduceToNat, Int.reduceLT, Int.reduceLE, Int.reduceEq, Int.reduceAdd, Int.reduceSub, Int.reduceMul, Int.toNat_natCast, reduceCtorEq, decide_true, decide_false, IntWalk.i64_in, IntWalk.u64_in, IntWalk.u8_in, hS, h0, h3, h6, h7, h8]
          refine qstate_call (hB3.new (fun _ _ _ => rfl) (by omega)) hp3n ?_
          intro o4 nx4 hle4 hB4 hk4
          have k4 : QKeep t o nx o4 := k3.trans (fun i j (hi : i < nx3) => hk4 i j (by omega)) (by omega)
          have hx34 := (hk4 nx 3 (by omega) (fun e => absurd e (by decide)) (by decide) (by decide)).trans hx3
          have hf4 := (hf.slot (o' := o3) (nx' := nx3 + 1) (fun _ => rfl) (by omega)).keep hk4 (by decide) (by decide) (by decide) hle4
          have ht4 := (ht.slot (o' := o3) (nx' := nx3 + 1) (fun _ => rfl) (by omega)).keep hk4 (by decide) (by decide) (by decide) hle4
          by_cases hb3 : b3.n ≥ 1000
          · rw [show qState b3 false = (0, b3, true) from if_pos hb3] at hB4 ⊢
            have hrow4 := hB4
            obtain ⟨vS, vF, hrow4⟩ := hrow4
            replace hrow4 := hrow4.row
            simp (disch := omega) only [go_sem, ↓IntWalk.iteOmega, IntWalk.toNatUp, Nat.reduceEqDiff, Nat.reduceAdd, Nat.reduceMul, Nat.reduceSub, Nat.reduceLT, Nat.reduceLeDiff, Int.reduceToNat, Int.reduceLT, Int.reduceLE, Int.reduceEq, Int.reduceAdd, Int.reduceSub, Int.reduceMul, Int.toNat_natCast, reduceCtorEq, decide_true, decide_false, IntWalk.i64_in, IntWalk.u64_in, IntWalk.u8_in, hrow4, h0, h6]
            refine hQ _ _ _ (.int .i64 s0, .int .i64 0) (by simp (disch := omega) only [go_sem, ↓IntWalk.iteOmega, IntWalk.toNatUp, Nat.reduceEqDiff, Nat.reduceAdd, Nat.reduceMul, Nat.reduceSub, Nat.reduceLT, Nat.reduceLeDiff, Int.reduceToNat, Int.reduceLT, Int.reduceLE, Int.reduceEq, Int.reduceAdd, Int.reduceSub, Int.reduceMul, Int.toNat_natCast, reduceCtorEq, decide_true, decide_false, IntWalk.i64_in, IntWalk.u64_in, IntWalk.u8_in, h6]) (by simp (disch := omega) only [go_sem, ↓IntWalk.iteOmega, IntWalk.toNatUp, Nat.reduceEqDiff, Nat.reduceAdd, Nat.reduceMul, Nat.reduceSub, Nat.reduceLT, Nat.reduceLeDiff, Int.reduceToNat, Int.reduceLT, Int.reduceLE, Int.reduceEq, Int.reduceAdd, Int.reduceSub, Int.reduceMul, Int.toNat_natCast, reduceCtorEq, decide_true, decide_false, IntWalk.i64_in, IntWalk.u64_in, IntWalk.u8_in]) ⟨by dsimp only; omega, k4, s0, 0, rfl, .inr ⟨pB hb3, b3, hp3n, hB4.new (fun _ _ _ => rfl) (by dsimp only; omega)⟩⟩
          · rw [show qState b3 false = ((b3.n : Int), b3.state, false) from if_neg hb3] at hB4 ⊢
            have hrow4 := hB4
            obtain ⟨vS, vF, hrow4⟩ := hrow4
            replace hrow4 := hrow4.row
            have hpA := pA (by omega)
            simp (disch := omega) only [go_sem, ↓IntWalk.iteOmega, IntWalk.toNatUp, Nat.reduceEqDiff, Nat.reduceAdd, Nat.reduceMul, Nat.reduceSub, Nat.reduceLT, Nat.reduceLeDiff, Int.reduceToNat, Int.reduceLT, Int.reduceLE, Int.reduceEq, Int.reduceAdd, Int.reduceSub, Int.reduceMul, Int.toNat_natCast, reduceCtorEq, decide_true, decide_false, IntWalk.i64_in, IntWalk.u64_in, IntWalk.u8_in, hrow4, hL, h0, h3, h6, h7, h8, hx34]
            rw [← cNd_mk]
            have hBn : ∀ n, nx4 ≤ n → QAt o4 n t b3.state false := fun n hn => hB4.new (fun _ _ _ => rfl) hn
            have hfn : ∀ n, nx4 ≤ n → IAt 70 o4 n vf (fstL out) := fun n hn => hf4.slot (fun _ => rfl) hn
            have htn' : ∀ n, nx4 ≤ n → IAt 74 o4 n vt (sndL out) := fun n hn => ht4.slot (fun _ => rfl) hn
            refine cRel_call (lead_ok (hBn _ (by omega)) (hfn _ (by omega)) (htn' _ (by omega)) (by show b3.f.length ≤ _; omega) (by show b3.s.length ≤ _; omega) (by omega) (fun h => by rw [hout]; exact f6 h) (fun h => by rw [hout]; exact f7 h)) fun v H' hr => ?_
            obtain ⟨rfl, g1, g2, g3⟩ := hr.2 t b3.state kind set lo hi l s0 b3.n vf vt out rfl (hfn _ (by dsimp only; omega)) (htn' _ (by dsimp only; omega)) (hBn _ (by dsimp only; omega))
            obtain ⟨o5, nx5⟩ := H'
            dsimp only at g1 g2 g3
            have k5 : QKeep t o nx o5 := k4.trans (fun i j (hi : i < nx4) => g3 i j (by omega)) (by omega)
            simp (disch := omega) only [go_sem, ↓IntWalk.iteOmega, IntWalk.toNatUp, Nat.reduceEqDiff, Nat.reduceAdd, Nat.reduceMul, Nat.reduceSub, Nat.reduceLT, Nat.reduceLeDiff, Int.reduceToNat, Int.reduceLT, Int.reduceLE, Int.reduceEq, Int.reduceAdd, Int.reduceSub, Int.reduceMul, Int.toNat_natCast, reduceCtorEq, decide_true, decide_false, IntWalk.i64_in, IntWalk.u64_in, IntWalk.u8_in, h0, h6]
            refine hQ _ _ _ (.int .i64 s0, .int .i64 b3.n) (by simp (disch := omega) only [go_sem, ↓IntWalk.iteOmega, IntWalk.toNatUp, Nat.reduceEqDiff, Nat.reduceAdd, Nat.reduceMul, Nat.reduceSub, Nat.reduceLT, Nat.reduceLeDiff, Int.reduceToNat, Int.reduceLT, Int.reduceLE, Int.reduceEq, Int.reduceAdd, Int.reduceSub, Int.reduceMul, Int.toNat_natCast, reduceCtorEq, decide_true, decide_false, IntWalk.i64_in, IntWalk.u64_in, IntWalk.u8_in]) (by simp (disch := omega) only [go_sem, ↓IntWalk.iteOmega, IntWalk.toNatUp, Nat.reduceEqDiff, Nat.reduceAdd, Nat.reduceMul, Nat.reduceSub, Nat.reduceLT, Nat.reduceLeDiff, Int.reduceToNat, Int.reduceLT, Int.reduceLE, Int.reduceEq, Int.reduceAdd, Int.reduceSub, Int.reduceMul, Int.toNat_natCast, reduceCtorEq, decide_true, decide_false, IntWalk.i64_in, IntWalk.u64_in, IntWalk.u8_in]) ⟨by dsimp only; omega, k5, s0, b3.n, rfl, ?_⟩
            have hz2 : z.2 = leadB kind set lo b.n b3.n out b3.state := by rw [hpA]
            have hz1 : z.1 = ((b.n : Int), (b3.n : Int)) := by rw [hpA]
            refine .inl ⟨?_, by rw [hz1, hs0], ?_⟩
            · rw [hz2, leadB_n]; show b3.n + 1 ≤ 1000; omega
            · rw [hz2, ← hs0]; exact g2.new (fun _ _ _ => rfl) (by dsimp only; omega)
        · have hm : 1000 < b3.n := hm
          have := hp3.n
          omega
      · clear h3 h7 h8 h9 h10 h0 h6
        intro a o3 nx3 b3 hnx3 hB3 hn3 hmuch h0 h6 k3
        rw [h18]
        simp only [Try.f35, Option.getD_some, pathC]
        simp (disch := omega) only [go_sem, ↓IntWalk.iteOmega, IntWalk.toNatUp, Nat.reduceEqDiff, Nat.reduceAdd, Nat.reduceMul, Nat.reduceSub, Nat.reduceLT, Nat.reduceLeDiff, Int.reduceToNat, Int.reduceLT, Int.reduceLE, Int.reduceEq, Int.reduceAdd, Int.reduceSub, Int.reduceMul, Int.toNat_natCast, reduceCtorEq, decide_true, decide_false, IntWalk.i64_in, IntWalk.u64_in, IntWalk.u8_in, hS, h0, h6]
        refine qstate_call (hB3.new (fun _ _ _ => rfl) (by omega)) hn3 ?_
        intro o4 nx4 hle4 hB4 hk4
        have k4 : QKeep t o nx o4 := k3.trans (fun i j (hi : i < nx3) => hk4 i j (by omega)) (by omega)
        obtain ⟨u1, u2⟩ := qState_much b3 hn3
        rw [u1] at hB4
        obtain ⟨e4, he4⟩ : ∃ e4, e4 = (qState b3 true).1 := ⟨_, rfl⟩
        rw [← he4]
        have hrow4 := hB4
        obtain ⟨vS, vF, hrow4⟩ := hrow4
        replace hrow4 := hrow4.row
        simp (disch := omega) only [go_sem, ↓IntWalk.iteOmega, IntWalk.toNatUp, Nat.reduceEqDiff, Nat.reduceAdd, Nat.reduceMul, Nat.reduceSub, Nat.reduceLT, Nat.reduceLeDiff, Int.reduceToNat, Int.reduceLT, Int.reduceLE, Int.reduceEq, Int.reduceAdd, Int.reduceSub, Int.reduceMul, Int.toNat_natCast, reduceCtorEq, decide_true, decide_false, IntWalk.i64_in, IntWalk.u64_in, IntWalk.u8_in, hrow4, h0, h6]
        exact hQ _ _ _ (.int .i64 s0, .int .i64 e4) (by simp (disch := omega) only [go_sem, ↓IntWalk.iteOmega, IntWalk.toNatUp, Nat.reduceEqDiff, Nat.reduceAdd, Nat.reduceMul, Nat.reduceSub, Nat.reduceLT, Nat.reduceLeDiff, Int.reduceToNat, Int.reduceLT, Int.reduceLE, Int.reduceEq, Int.reduceAdd, Int.reduceSub, Int.reduceMul, Int.toNat_natCast, reduceCtorEq, decide_true, decide_false, IntWalk.i64_in, IntWalk.u64_in, IntWalk.u8_in, h6]) (by simp (disch := omega) only [go_sem, ↓IntWalk.iteOmega, IntWalk.toNatUp, Nat.reduceEqDiff, Nat.reduceAdd, Nat.reduceMul, Nat.reduceSub, Nat.reduceLT, Nat.reduceLeDiff, Int.reduceToNat, Int.reduceLT, Int.reduceLE, Int.reduceEq, Int.reduceAdd, Int.reduceSub, Int.reduceMul, Int.toNat_natCast, reduceCtorEq, decide_true, decide_false, IntWalk.i64_in, IntWalk.u64_in, IntWalk.u8_in]) ⟨by dsimp only; omega, k4, s0, e4, rfl, .inr ⟨pB (by omega), _, u2, hB4.new (fun _ _ _ => rfl) (by dsimp only; omega)⟩⟩
    rw [← h18']
    by_cases k9 : kind = 9
    · rw [if_pos k9] at f5
      simp (disch := omega) only [go_sem, ↓IntWalk.iteOmega, IntWalk.toNatUp, Nat.reduceEqDiff, Nat.reduceAdd, Nat.reduceMul, Nat.reduceSub, Nat.reduceLT, Nat.reduceLeDiff, Int.reduceToNat, Int.reduceLT, Int.reduceLE, Int.reduceEq, Int.reduceAdd, Int.reduceSub, Int.reduceMul, Int.toNat_natCast, reduceCtorEq, decide_true, decide_false, IntWalk.i64_in, IntWalk.u64_in, IntWalk.u8_in, hx3, k9]
      exact loop _ _ _ _ (by omega) rfl (by simp (disch := omega) only [go_sem, ↓IntWalk.iteOmega, IntWalk.toNatUp, Nat.reduceEqDiff, Nat.reduceAdd, Nat.reduceMul, Nat.reduceSub, Nat.reduceLT, Nat.reduceLeDiff, Int.reduceToNat, Int.reduceLT, Int.reduceLE, Int.reduceEq, Int.reduceAdd, Int.reduceSub, Int.reduceMul, Int.toNat_natCast, reduceCtorEq, decide_true, decide_false, IntWalk.i64_in, IntWalk.u64_in, IntWalk.u8_in]) (by simp (disch := omega) only [go_sem, ↓IntWalk.iteOmega, IntWalk.toNatUp, Nat.reduceEqDiff, Nat.reduceAdd, Nat.reduceMul, Nat.reduceSub, Nat.reduceLT, Nat.reduceLeDiff, Int.reduceToNat, Int.reduceLT, Int.reduceLE, Int.reduceEq, Int.reduceAdd, Int.reduceSub, Int.reduceMul, Int.toNat_natCast, reduceCtorEq, decide_true, decide_false, IntWalk.i64_in, IntWalk.u64_in, IntWalk.u8_in]) (by simp (disch := omega) only [go_sem, ↓IntWalk.iteOmega, IntWalk.toNatUp, Nat.reduceEqDiff, Nat.reduceAdd, Nat.reduceMul, Nat.reduceSub, Nat.reduceLT, Nat.reduceLeDiff, Int.reduceToNat, Int.reduceLT, Int.reduceLE, Int.reduceEq, Int.reduceAdd, Int.reduceSub, Int.reduceMul, Int.toNat_natCast, reduceCtorEq, decide_true, decide_false, IntWalk.i64_in, IntWalk.u64_in, IntWalk.u8_in]) (by rw [f5]; simp (disch := omega) only [go_sem, ↓IntWalk.iteOmega, IntWalk.toNatUp, Nat.reduceEqDiff, Nat.reduceAdd, Nat.reduceMul, Nat.reduceSub, Nat.reduceLT, Nat.reduceLeDiff, Int.reduceToNat, Int.reduceLT, Int.reduceLE, Int.reduceEq, Int.reduceAdd, Int.reduceSub, Int.reduceMul, Int.toNat_natCast, reduceCtorEq, decide_true, decide_false, IntWalk.i64_in, IntWalk.u64_in, IntWalk.u8_in]) (by simp (disch := omega) only [go_sem, ↓IntWalk.iteOmega, IntWalk.toNatUp, Nat.reduceEqDiff, Nat.reduceAdd, Nat.reduceMul, Nat.reduceSub, Nat.reduceLT, Nat.reduceLeDiff, Int.reduceToNat, Int.reduceLT, Int.reduceLE, Int.reduceEq, Int.reduceAdd, Int.reduceSub, Int.reduceMul, Int.toNat_natCast, reduceCtorEq, decide_true, decide_false, IntWalk.i64_in, IntWalk.u64_in, IntWalk.u8_in]) (by simp (disch := omega) only [go_sem, ↓IntWalk.iteOmega, IntWalk.toNatUp, Nat.reduceEqDiff, Nat.reduceAdd, Nat.reduceMul, Nat.reduceSub, Nat.reduceLT, Nat.reduceLeDiff, Int.reduceToNat, Int.reduceLT, Int.reduceLE, Int.reduceEq, Int.reduceAdd, Int.reduceSub, Int.reduceMul, Int.toNat_natCast, reduceCtorEq, decide_true, decide_false, IntWalk.i64_in, IntWalk.u64_in, IntWalk.u8_in]) (by simp (disch := omega) only [go_sem, ↓IntWalk.iteOmega, IntWalk.toNatUp, Nat.reduceEqDiff, Nat.reduceAdd, Nat.reduceMul, Nat.reduceSub, Nat.reduceLT, Nat.reduceLeDiff, Int.reduceToNat, Int.reduceLT, Int.reduceLE, Int.reduceEq, Int.reduceAdd, Int.reduceSub, Int.reduceMul, Int.toNat_natCast, reduceCtorEq, decide_true, decide_false, IntWalk.i64_in, IntWalk.u64_in, IntWalk.u8_in]) (fun a o' nx' v e1 e2 hr => ⟨.inr rfl, by rw [e1, e2]; exact hr⟩)
    · rw [if_neg k9] at f5
      simp (disch := omega) only [go_sem, ↓IntWalk.iteOmega, IntWalk.toNatUp, Nat.reduceEqDiff, Nat.reduceAdd, Nat.reduceMul, Nat.reduceSub, Nat.reduceLT, Nat.reduceLeDiff, Int.reduceToNat, Int.reduceLT, Int.reduceLE, Int.reduceEq, Int.reduceAdd, Int.reduceSub, Int.reduceMul, Int.toNat_natCast, reduceCtorEq, decide_true, decide_false, IntWalk.i64_in, IntWalk.u64_in, IntWalk.u8_in, hx3, k9]
      exact loop _ _ _ _ (by omega) rfl (by simp (disch := omega) only [go_sem, ↓IntWalk.iteOmega, IntWalk.toNatUp, Nat.reduceEqDiff, Nat.reduceAdd, Nat.reduceMul, Nat.reduceSub, Nat.reduceLT, Nat.reduceLeDiff, Int.reduceToNat, Int.reduceLT, Int.reduceLE, Int.reduceEq, Int.reduceAdd, Int.reduceSub, Int.reduceMul, Int.toNat_natCast, reduceCtorEq, decide_true, decide_false, IntWalk.i64_in, IntWalk.u64_in, IntWalk.u8_in]) (by simp (disch := omega) only [go_sem, ↓IntWalk.iteOmega, IntWalk.toNatUp, Nat.reduceEqDiff, Nat.reduceAdd, Nat.reduceMul, Nat.reduceSub, Nat.reduceLT, Nat.reduceLeDiff, Int.reduceToNat, Int.reduceLT, Int.reduceLE, Int.reduceEq, Int.reduceAdd, Int.reduceSub, Int.reduceMul, Int.toNat_natCast, reduceCtorEq, decide_true, decide_false, IntWalk.i64_in, IntWalk.u64_in, IntWalk.u8_in]) (by simp (disch := omega) only [go_sem, ↓IntWalk.iteOmega, IntWalk.toNatUp, Nat.reduceEqDiff, Nat.reduceAdd, Nat.reduceMul, Nat.reduceSub, Nat.reduceLT, Nat.reduceLeDiff, Int.reduceToNat, Int.reduceLT, Int.reduceLE, Int.reduceEq, Int.reduceAdd, Int.reduceSub, Int.reduceMul, Int.toNat_natCast, reduceCtorEq, decide_true, decide_false, IntWalk.i64_in, IntWalk.u64_in, IntWalk.u8_in]) (by rw [f5]; simp (disch := omega) only [go_sem, ↓IntWalk.iteOmega, IntWalk.toNatUp, Nat.reduceEqDiff, Nat.reduceAdd, Nat.reduceMul, Nat.reduceSub, Nat.reduceLT, Nat.reduceLeDiff, Int.reduceToNat, Int.reduceLT, Int.reduceLE, Int.reduceEq, Int.reduceAdd, Int.reduceSub, Int.reduceMul, Int.toNat_natCast, reduceCtorEq, decide_true, decide_false, IntWalk.i64_in, IntWalk.u64_in, IntWalk.u8_in]) (by simp (disch := omega) only [go_sem, ↓IntWalk.iteOmega, IntWalk.toNatUp, Nat.reduceEqDiff, Nat.reduceAdd, Nat.reduceMul, Nat.reduceSub, Nat.reduceLT, Nat.reduceLeDiff, Int.reduceToNat, Int.reduceLT, Int.reduceLE, Int.reduceEq, Int.reduceAdd, Int.reduceSub, Int.reduceMul, Int.toNat_natCast, reduceCtorEq, decide_true, decide_false, IntWalk.i64_in, IntWalk.u64_in, IntWalk.u8_in]) (by simp (disch := omega) only [go_sem, ↓IntWalk.iteOmega, IntWalk.toNatUp, Nat.reduceEqDiff, Nat.reduceAdd, Nat.reduceMul, Nat.reduceSub, Nat.reduceLT, Nat.reduceLeDiff, Int.reduceToNat, Int.reduceLT, Int.reduceLE, Int.reduceEq, Int.reduceAdd, Int.reduceSub, Int.reduceMul, Int.toNat_natCast, reduceCtorEq, decide_true, decide_false, IntWalk.i64_in, IntWalk.u64_in, IntWalk.u8_in]) (by simp (disch := omega) only [go_sem, ↓IntWalk.iteOmega, IntWalk.toNatUp, Nat.reduceEqDiff, Nat.reduceAdd, Nat.reduceMul, Nat.reduceSub, Nat.reduceLT, Nat.reduceLeDiff, Int.reduceToNat, Int.reduceLT, Int.reduceLE, Int.reduceEq, Int.reduceAdd, Int.reduceSub, Int.reduceMul, Int.toNat_natCast, reduceCtorEq, decide_true, decide_false, IntWalk.i64_in, IntWalk.u64_in, IntWalk.u8_in]) (fun a o' nx' v e1 e2 hr => ⟨.inr rfl, by rw [e1, e2]; exact hr⟩))
  refine ⟨v, H', h1, fun t' b' x' e hb => ?_⟩
  simp only [List.cons.injEq, AV.ptr.injEq, Prod.mk.injEq, AV.agg.injEq, and_true] at e
  obtain ⟨⟨rfl, _⟩, e2⟩ := e
  rw [← (h.same hb).1, ← cNd_inj e2, ← hz]
  exact h2
end Go.Proofs.Ytcaemgpificohaa.A
