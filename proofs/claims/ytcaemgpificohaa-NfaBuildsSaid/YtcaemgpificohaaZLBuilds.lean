/- NfaBuilds answers true for whatever it is called with. -/
import Derived.Test.YtcaemgpificohaaMLBuilds1
import Derived.Test.YtcaemgpificohaaMLBuilds2
import Derived.Test.YtcaemgpificohaaMLBuilds3
import Derived.Test.YtcaemgpificohaaMLBuilds4
import Derived.Test.YtcaemgpificohaaMLBuilds5
import Derived.Test.YtcaemgpificohaaMLBuilds6
import Derived.Test.YtcaemgpificohaaMLBuilds7
import Derived.Test.YtcaemgpificohaaMLBuilds8
import Derived.Test.YtcaemgpificohaaMLBuilds9
set_option linter.unusedVariables false
set_option linter.unusedSimpArgs false
set_option linter.unnecessarySimpa false
/- The document's builder: join; part of any tree. -/
namespace Go.Proofs.Ytcaemgpificohaa.A
open Go
set_option maxRecDepth 20000
/-- One more of each row. -/
theorem qjoin_app {cr : CallR} {nx0 : Nat} {out : List (Int × Int)} {s e : Int} {vf vt : AV} {a : AAct} {o : Ob} {nx : Nat} {Q : WPost} (hlen : out.length ≤ 20) (hnx : nx0 ≤ nx) (h7 : a 6 = vf) (h8 : a 7 = vt) (h12 : a 9 = .int .i64 s) (h13 : a 10 = .int .i64 e) (hf : IAt 39 o nx vf (fstL out)) (ht : IAt 43 o nx vt (sndL out)) (hff : ∀ j g n, vf = .ref (j, 39) g 0 n → nx0 ≤ j) (htf : ∀ j g n, vt = .ref (j, 43) g 0 n → nx0 ≤ j)
    (hQ : ∀ a' o' nx' vf' vt', nx ≤ nx' → IAt 39 o' nx' vf' (fstL (out ++ [(s, e)])) → IAt 43 o' nx' vt' (sndL (out ++ [(s, e)])) → (∀ j g n, vf' = .ref (j, 39) g 0 n → nx0 ≤ j) → (∀ j g n, vt' = .ref (j, 43) g 0 n → nx0 ≤ j) → a' 6 = vf' → a' 7 = vt' → (∀ u, u ≠ 6 → u ≠ 7 → u < 36 → a' u = a u) → (∀ i j, i < nx0 ∨ (j ≠ 38 ∧ j ≠ 39 ∧ j ≠ 42 ∧ j ≠ 43) → o' (i, j) = o (i, j)) → Q .normal a' o' nx') :
    WP (EX md0 (fun _ _ => none)) cr 30 (fun _ => none) (pathC [1, 1, 0, 1, 0, 0, 1, 0, 0, 1] (Try.f55.body.getD .skip)) a o nx Q := by
  simp only [Try.f55, Option.getD_some, pathC]
  have hl : (fstL out).length = out.length := List.length_map ..
  have hl' : (sndL out).length = out.length := List.length_map ..
  have ep : ∀ (f g : Nat) (y1 y2 y3 y4 : AObj), nx0 ≤ f → nx0 ≤ g → ∀ i j, i < nx0 ∨ (j ≠ 38 ∧ j ≠ 39 ∧ j ≠ 42 ∧ j ≠ 43) → upd (upd (upd (upd o (nx, 38) y1) (f, 39) y2) (nx, 42) y3) (g, 43) y4 (i, j) = o (i, j) := fun f g y1 y2 y3 y4 hf hg i j h => by
    rcases h with h | ⟨a1, a2, a3, a4⟩
    · have e1 : i ≠ nx := by omega
      have e2 : i ≠ f := by omega
      have e3 : i ≠ g := by omega
      simp [upd_app, e1, e2, e3]
    · simp [upd_app, a1, a2, a3, a4]
  have tk1 : (cI (fstL out)).take out.length = cI (fstL out) := take_len (by rw [cI_length, hl])
  have tk2 : (cI (sndL out)).take out.length = cI (sndL out) := take_len (by rw [cI_length, hl'])
  have p1 : fstL (out ++ [(s, e)]) = fstL out ++ [s] := fstL_snoc ..
  have p2 : sndL (out ++ [(s, e)]) = sndL out ++ [e] := sndL_snoc ..
  have c1 : cI (fstL out ++ [s]) = cI (fstL out) ++ [.int .i64 s] := by rw [cI_app]; rfl
  have c2 : cI (sndL out ++ [e]) = cI (sndL out) ++ [.int .i64 e] := by rw [cI_app]; rfl
  have fin : ∀ (a' : AAct) (f g : Nat) (gf gg : Tag) (y1 y2 y3 y4 : AObj) (vf' vt' : AV), nx0 ≤ f → nx0 ≤ g → f ≤ nx → g ≤ nx → vf' = .ref (f, 39) gf 0 (out.length + 1) → vt' = .ref (g, 43) gg 0 (out.length + 1) → y2 = .row ⟨3, 1, gf, false, true, cI (fstL out) ++ [.int .i64 s]⟩ → y4 = .row ⟨3, 1, gg, false, true, cI (sndL out) ++ [.int .i64 e]⟩ → a' 6 = vf' → a' 7 = vt' → (∀ u, u ≠ 6 → u ≠ 7 → u < 36 → a' u = a u) → Q .normal a' (upd (upd (upd (upd o (nx, 38) y1) (f, 39) y2) (nx, 42) y3) (g, 43) y4) (nx + 1) := by
    intro a' f g gf gg y1 y2 y3 y4 vf' vt' b1 b2 b3 b4 e1 e2 e3 e4 e5 e6 e7
    refine hQ a' _ _ vf' vt' (by omega) (.inr ⟨f, gf, ?_, by omega, ?_, ?_⟩) (.inr ⟨g, gg, ?_, by omega, ?_, ?_⟩) ?_ ?_ e5 e6 e7 (ep f g y1 y2 y3 y4 b1 b2)
    · rw [e1, p1, List.length_append, hl]; rfl
    · rw [p1, c1, ← e3]; simp [upd_app]
    · rw [cI_length]; omega
    · rw [e2, p2, List.length_append, hl']; rfl
    · rw [p2, c2, ← e4]; simp [upd_app]
    · rw [cI_length]; omega
    · intro j g' n h; rw [e1] at h; injection h with h; injection h with h; omega
    · intro j g' n h; rw [e2] at h; injection h with h; injection h with h; omega
  rcases hf.fresh with ⟨rfl, hn1⟩ | ⟨i1, g1, rfl, hi1, hrow1⟩
  · have hz : out.length = 0 := by rw [← hl, hn1]; rfl
    rcases ht.fresh with ⟨rfl, hn2⟩ | ⟨i2, g2, rfl, hi2, hrow2⟩
    · simp (disch := omega) only [go_sem, ↓IntWalk.iteOmega, IntWalk.toNatUp, Nat.reduceEqDiff, Nat.reduceAdd, Nat.reduceMul, Nat.reduceSub, Nat.reduceLT, Nat.reduceLeDiff, Int.reduceToNat, Int.reduceLT, Int.reduceLE, Int.reduceEq, Int.reduceAdd, Int.reduceSub, Int.reduceMul, Int.toNat_natCast, reduceCtorEq, decide_true, decide_false, IntWalk.i64_in, IntWalk.u64_in, IntWalk.u8_in, h7, h8, h12, h13]
      exact fin _ nx nx (nx, 39) (nx, 43) _ _ _ _ (.ref (nx, 39) (nx, 39) 0 1) (.ref (nx, 43) (nx, 43) 0 1) (by omega) (by omega) (by omega) (by omega) (by rw [hz]) (by rw [hz]) (by rw [hn1]; rfl) (by rw [hn2]; rfl) (by simp (disch := omega) only [go_sem, ↓IntWalk.iteOmega, IntWalk.toNatUp, Nat.reduceEqDiff, Nat.reduceAdd, Nat.reduceMul, Nat.reduceSub, Nat.reduceLT, Nat.reduceLeDiff, Int.reduceToNat, Int.reduceLT, Int.reduceLE, Int.reduceEq, Int.reduceAdd, Int.reduceSub, Int.reduceMul, Int.toNat_natCast, reduceCtorEq, decide_true, decide_false, IntWalk.i64_in, IntWalk.u64_in, IntWalk.u8_in]) (by simp (disch := omega) only [go_sem, ↓IntWalk.iteOmega, IntWalk.toNatUp, Nat.reduceEqDiff, Nat.reduceAdd, Nat.reduceMul, Nat.reduceSub, Nat.reduceLT, Nat.reduceLeDiff, Int.reduceToNat, Int.reduceLT, Int.reduceLE, Int.reduceEq, Int.reduceAdd, Int.reduceSub, Int.reduceMul, Int.toNat_natCast, reduceCtorEq, decide_true, decide_false, IntWalk.i64_in, IntWalk.u64_in, IntWalk.u8_in]) (fun u u1 u2 u3 => by simp (disch := omega) only [go_sem, ↓IntWalk.iteOmega, IntWalk.toNatUp, Nat.reduceEqDiff, Nat.reduceAdd, Nat.reduceMul, Nat.reduceSub, Nat.reduceLT, Nat.reduceLeDiff, Int.reduceToNat, Int.reduceLT, Int.reduceLE, Int.reduceEq, Int.reduceAdd, Int.reduceSub, Int.reduceMul, Int.toNat_natCast, reduceCtorEq, decide_true, decide_false, IntWalk.i64_in, IntWalk.u64_in, IntWalk.u8_in, u1, u2])
    · have hj := htf _ _ _ rfl
      rw [hl'] at h8
      simp (disch := omega) only [go_sem, ↓IntWalk.iteOmega, IntWalk.toNatUp, Nat.reduceEqDiff, Nat.reduceAdd, Nat.reduceMul, Nat.reduceSub, Nat.reduceLT, Nat.reduceLeDiff, Int.reduceToNat, Int.reduceLT, Int.reduceLE, Int.reduceEq, Int.reduceAdd, Int.reduceSub, Int.reduceMul, Int.toNat_natCast, reduceCtorEq, decide_true, decide_false, IntWalk.i64_in, IntWalk.u64_in, IntWalk.u8_in, h7, h8, h12, h13, hrow2, hl', tk1, tk2]
      exact fin _ nx i2 (nx, 39) (nx, 43) _ _ _ _ (.ref (nx, 39) (nx, 39) 0 1) (.ref (i2, 43) (nx, 43) 0 (out.length + 1)) (by omega) (by omega) (by omega) (by omega) (by rw [hz]) rfl (by rw [hn1]; rfl) rfl (by simp (disch := omega) only [go_sem, ↓IntWalk.iteOmega, IntWalk.toNatUp, Nat.reduceEqDiff, Nat.reduceAdd, Nat.reduceMul, Nat.reduceSub, Nat.reduceLT, Nat.reduceLeDiff, Int.reduceToNat, Int.reduceLT, Int.reduceLE, Int.reduceEq, Int.reduceAdd, Int.reduceSub, Int.reduceMul, Int.toNat_natCast, reduceCtorEq, decide_true, decide_false, IntWalk.i64_in, IntWalk.u64_in, IntWalk.u8_in]) (by simp (disch := omega) only [go_sem, ↓IntWalk.iteOmega, IntWalk.toNatUp, Nat.reduceEqDiff, Nat.reduceAdd, Nat.reduceMul, Nat.reduceSub, Nat.reduceLT, Nat.reduceLeDiff, Int.reduceToNat, Int.reduceLT, Int.reduceLE, Int.reduceEq, Int.reduceAdd, Int.reduceSub, Int.reduceMul, Int.toNat_natCast, reduceCtorEq, decide_true, decide_false, IntWalk.i64_in, IntWalk.u64_in, IntWalk.u8_in]) (fun u u1 u2 u3 => by simp (disch := omega) only [go_sem, ↓IntWalk.iteOmega, IntWalk.toNatUp, Nat.reduceEqDiff, Nat.reduceAdd, Nat.reduceMul, Nat.reduceSub, Nat.reduceLT, Nat.reduceLeDiff, Int.reduceToNat, Int.reduceLT, Int.reduceLE, Int.reduceEq, Int.reduceAdd, Int.reduceSub, Int.reduceMul, Int.toNat_natCast, reduceCtorEq, decide_true, decide_false, IntWalk.i64_in, IntWalk.u64_in, IntWalk.u8_in, u1, u2])
  · have hj1 := hff _ _ _ rfl
    rw [hl] at h7
    rcases ht.fresh with ⟨rfl, hn2⟩ | ⟨i2, g2, rfl, hi2, hrow2⟩
    · have hz : out.length = 0 := by rw [← hl', hn2]; rfl
      simp (disch := omega) only [go_sem, ↓IntWalk.iteOmega, IntWalk.toNatUp, Nat.reduceEqDiff, Nat.reduceAdd, Nat.reduceMul, Nat.reduceSub, Nat.reduceLT, Nat.reduceLeDiff, Int.reduceToNat, Int.reduceLT, Int.reduceLE, Int.reduceEq, Int.reduceAdd, Int.reduceSub, Int.reduceMul, Int.toNat_natCast, reduceCtorEq, decide_true, decide_false, IntWalk.i64_in, IntWalk.u64_in, IntWalk.u8_in, h7, h8, h12, h13, hrow1, hl, tk1, tk2]
      exact fin _ i1 nx (nx, 39) (nx, 43) _ _ _ _ (.ref (i1, 39) (nx, 39) 0 (out.length + 1)) (.ref (nx, 43) (nx, 43) 0 1) (by omega) (by omega) (by omega) (by omega) rfl (by rw [hz]) rfl (by rw [hn2]; rfl) (by simp (disch := omega) only [go_sem, ↓IntWalk.iteOmega, IntWalk.toNatUp, Nat.reduceEqDiff, Nat.reduceAdd, Nat.reduceMul, Nat.reduceSub, Nat.reduceLT, Nat.reduceLeDiff, Int.reduceToNat, Int.reduceLT, Int.reduceLE, Int.reduceEq, Int.reduceAdd, Int.reduceSub, Int.reduceMul, Int.toNat_natCast, reduceCtorEq, decide_true, decide_false, IntWalk.i64_in, IntWalk.u64_in, IntWalk.u8_in]) (by simp (disch := omega) only [go_sem, ↓IntWalk.iteOmega, IntWalk.toNatUp, Nat.reduceEqDiff, Nat.reduceAdd, Nat.reduceMul, Nat.reduceSub, Nat.reduceLT, Nat.reduceLeDiff, Int.reduceToNat, Int.reduceLT, Int.reduceLE, Int.reduceEq, Int.reduceAdd, Int.reduceSub, Int.reduceMul, Int.toNat_natCast, reduceCtorEq, decide_true, decide_false, IntWalk.i64_in, IntWalk.u64_in, IntWalk.u8_in]) (fun u u1 u2 u3 => by simp (disch := omega) only [go_sem, ↓IntWalk.iteOmega, IntWalk.toNatUp, Nat.reduceEqDiff, Nat.reduceAdd, Nat.reduceMul, Nat.reduceSub, Nat.reduceLT, Nat.reduceLeDiff, Int.reduceToNat, Int.reduceLT, Int.reduceLE, Int.reduceEq, Int.reduceAdd, Int.reduceSub, Int.reduceMul, Int.toNat_natCast, reduceCtorEq, decide_true, decide_false, IntWalk.i64_in, IntWalk.u64_in, IntWalk.u8_in, u1, u2])
    · have hj := htf _ _ _ rfl
      rw [hl'] at h8
      simp (disch := omega) only [go_sem, ↓IntWalk.iteOmega, IntWalk.toNatUp, Nat.reduceEqDiff, Nat.reduceAdd, Nat.reduceMul, Nat.reduceSub, Nat.reduceLT, Nat.reduceLeDiff, Int.reduceToNat, Int.reduceLT, Int.reduceLE, Int.reduceEq, Int.reduceAdd, Int.reduceSub, Int.reduceMul, Int.toNat_natCast, reduceCtorEq, decide_true, decide_false, IntWalk.i64_in, IntWalk.u64_in, IntWalk.u8_in, h7, h8, h12, h13, hrow1, hrow2, hl, hl', tk1, tk2]
      exact fin _ i1 i2 (nx, 39) (nx, 43) _ _ _ _ (.ref (i1, 39) (nx, 39) 0 (out.length + 1)) (.ref (i2, 43) (nx, 43) 0 (out.length + 1)) (by omega) (by omega) (by omega) (by omega) rfl rfl rfl rfl (by simp (disch := omega) only [go_sem, ↓IntWalk.iteOmega, IntWalk.toNatUp, Nat.reduceEqDiff, Nat.reduceAdd, Nat.reduceMul, Nat.reduceSub, Nat.reduceLT, Nat.reduceLeDiff, Int.reduceToNat, Int.reduceLT, Int.reduceLE, Int.reduceEq, Int.reduceAdd, Int.reduceSub, Int.reduceMul, Int.toNat_natCast, reduceCtorEq, decide_true, decide_false, IntWalk.i64_in, IntWalk.u64_in, IntWalk.u8_in]) (by simp (disch := omega) only [go_sem, ↓IntWalk.iteOmega, IntWalk.toNatUp, Nat.reduceEqDiff, Nat.reduceAdd, Nat.reduceMul, Nat.reduceSub, Nat.reduceLT, Nat.reduceLeDiff, Int.reduceToNat, Int.reduceLT, Int.reduceLE, Int.reduceEq, Int.reduceAdd, Int.reduceSub, Int.reduceMul, Int.toNat_natCast, reduceCtorEq, decide_true, decide_false, IntWalk.i64_in, IntWalk.u64_in, IntWalk.u8_in]) (fun u u1 u2 u3 => by simp (disch := omega) only [go_sem, ↓IntWalk.iteOmega, IntWalk.toNatUp, Nat.reduceEqDiff, Nat.reduceAdd, Nat.reduceMul, Nat.reduceSub, Nat.reduceLT, Nat.reduceLeDiff, Int.reduceToNat, Int.reduceLT, Int.reduceLE, Int.reduceEq, Int.reduceAdd, Int.reduceSub, Int.reduceMul, Int.toNat_natCast, reduceCtorEq, decide_true, decide_false, IntWalk.i64_in, IntWalk.u64_in, IntWalk.u8_in, u1, u2])
theorem qjoin_loop {set lo hi : Int} {ks : List Nd} (hk : okNs ks = true) (hlen : ks.length ≤ 10) (hpart : ∀ x ∈ ks, ∀ t o nx b, QAt o nx t b false → QPre b → ∃ v H', QPart [bp t, nodeV x] ⟨o, nx⟩ v H') {cr : CallR} (hP : cr 35 = cRel QPart)
    {t r : Nat} {o0 : Ob} {nx0 : Nat} {b0 : BS} {a : AAct} {o : Ob} {nx : Nat} {Q : WPost} (hr : nx0 ≤ r) (hrn : r < nx) (hnx : nx0 ≤ nx) (hst : QAt o nx t b0 false) (hpre0 : QPre b0) (ho3 : o (r, 3) = some (.row ⟨34, 1, (r, 3), false, true, [.int .i64 4, .int .i64 set, .int .i64 lo, .int .i64 hi, slN ks]⟩)) (h3 : a 3 = .ptr (r, 3) (r, 3) 0) (h7 : a 6 = .nil) (h8 : a 7 = .nil) (h10 : a 8 = .int .i64 0) (h0 : a 0 = bp t) (hkp : QKeep t o0 nx0 o)
    (hQ1 : ∀ a o nx b out vf vt, nx0 ≤ nx → QAt o nx t b false → QPre b → bParts (bPartL ks) b0 [] = (out, b) → out.length = ks.length → IAt 39 o nx vf (fstL out) → IAt 43 o nx vt (sndL out) → a 6 = vf → a 7 = vt → a 0 = bp t → QKeep t o0 nx0 o → Q .normal a o nx)
    (hQ2 : ∀ a o nx b', nx0 ≤ nx → QAt o nx t b' true → b'.n ≤ 1000 → 1000 < (bParts (bPartL ks) b0 []).2.n → a 0 = bp t → QKeep t o0 nx0 o → Q .normal a o nx) :
    WP (EX md0 (fun _ _ => none)) cr 30 (fun _ => none) (pathC [1, 1, 0, 1, 0] (Try.f55.body.getD .skip)) a o nx (blockQ 0 Q) := by
  simp only [Try.f55, Option.getD_some, pathC]
  refine WP_loop (fun m a o nx => ∃ (i : Nat) (vf vt : AV), i ≤ ks.length ∧ m = ks.length - i ∧ nx0 ≤ nx ∧ r < nx ∧ a 6 = vf ∧ a 7 = vt ∧ ((∃ b out, QAt o nx t b false ∧ QPre b ∧ bParts (bPartL ks) b0 [] = bParts (bPartL (ks.drop i)) b out ∧ out.length = i ∧ IAt 39 o nx vf (fstL out) ∧ IAt 43 o nx vt (sndL out) ∧ (∀ j g n, vf = .ref (j, 39) g 0 n → nx0 ≤ j) ∧ (∀ j g n, vt = .ref (j, 43) g 0 n → nx0 ≤ j)) ∨ ∃ b', b'.n ≤ 1000 ∧ QAt o nx t b' true ∧ 1000 < (bParts (bPartL ks) b0 []).2.n) ∧ o (r, 3) = some (.row ⟨34, 1, (r, 3), false, true, [.int .i64 4, .int .i64 set, .int .i64 lo, .int .i64 hi, slN ks]⟩) ∧ a 3 = .ptr (r, 3) (r, 3) 0 ∧ a 8 = .int .i64 i ∧ a 0 = bp t ∧ QKeep t o0 nx0 o) ks.length (by omega) ⟨0, .nil, .nil, by omega, by omega, hnx, hrn, h7, h8, .inl ⟨b0, [], hst, hpre0, rfl, rfl, HS.nil, HS.nil, fun j g n h => (by cases h), fun j g n h => (by cases h)⟩, ho3, h3, h10, h0, hkp⟩ ?_
  clear hst hpre0 ho3 h3 h7 h8 h10 h0 hkp hnx hrn
  rintro m a o nx ⟨i, vf, vt, hi, rfl, hnx, hrn, h7, h8, hst, ho3, h3, h10, h0, hkp⟩
  rcases hst with ⟨b, out, hB, hpre, hbp, hout, hf, ht, hff, htf⟩ | ⟨b', hn', hB', hmuch⟩
  · have hB' := hB
    obtain ⟨vS, vF, hR⟩ := hB'
    have hrow := hR.row
    have htn := hR.lt
    by_cases hlt : i < ks.length
    · have hmem := nd_mem hlt
      have hx := okNs_get hk hlt
      have hdrop := bPartL_drop hlt
      have hat := cNds_at hlt
      obtain ⟨x, hxe⟩ : ∃ x, x = ks.getD i default := ⟨_, rfl⟩
      rw [← hxe] at hmem hx hdrop hat
      rw [hdrop, bParts_cons, if_neg (by have := hpre.n; omega)] at hbp
      obtain ⟨c6, h6⟩ : ∃ c, c = pathC [1, 1, 0, 1, 0, 0, 1, 0, 0, 1] (Try.f55.body.getD .skip) := ⟨_, rfl⟩
      have h6' := h6
      simp only [Try.f55, Option.getD_some, pathC] at h6'
      rw [← h6']
      clear h6'
      simp (disch := omega) only [go_sem, ↓IntWalk.iteOmega, IntWalk.toNatUp, Nat.reduceEqDiff, Nat.reduceAdd, Nat.reduceMul, Nat.reduceSub, Nat.reduceLT, Nat.reduceLeDiff, Int.reduceToNat, Int.reduceLT, Int.reduceLE, Int.reduceEq, Int.reduceAdd, Int.reduceSub, Int.reduceMul, Int.toNat_natCast, reduceCtorEq, decide_true, decide_false, IntWalk.i64_in, IntWalk.u64_in, IntWalk.u8_in, h0, h3, h7, h8, h10, hrow, ho3, hat, hP]
      refine qpart_call (hpart x hmem t _ _ b (hB.new (fun _ _ _ => rfl) (by omega)) hpre) (hB.new (fun _ _ _ => rfl) (by omega)) ?_
      intro s' e' o1 nx1 hle1 hk1 hres
      have k1 : QKeep t o nx o1 := fun i' j' (hi' : i' < nx) => hk1 i' j' (by omega)
      have hf1 := hf.keep (nx' := nx1) k1 (by decide) (by decide) (by decide) (by omega)
      have ht1 := ht.keep (nx' := nx1) k1 (by decide) (by decide) (by decide) (by omega)
      clear hk1
      simp (disch := omega) only [go_sem, ↓IntWalk.iteOmega, IntWalk.toNatUp, Nat.reduceEqDiff, Nat.reduceAdd, Nat.reduceMul, Nat.reduceSub, Nat.reduceLT, Nat.reduceLeDiff, Int.reduceToNat, Int.reduceLT, Int.reduceLE, Int.reduceEq, Int.reduceAdd, Int.reduceSub, Int.reduceMul, Int.toNat_natCast, reduceCtorEq, decide_true, decide_false, IntWalk.i64_in, IntWalk.u64_in, IntWalk.u8_in, h0, h3, h7, h8, h10]
      rw [h6]
      refine qjoin_app (nx0 := nx0) (out := out) (s := s') (e := e') (by omega) (by omega) (by simp (disch := omega) only [go_sem, ↓IntWalk.iteOmega, IntWalk.toNatUp, Nat.reduceEqDiff, Nat.reduceAdd, Nat.reduceMul, Nat.reduceSub, Nat.reduceLT, Nat.reduceLeDiff, Int.reduceToNat, Int.reduceLT, Int.reduceLE, Int.reduceEq, Int.reduceAdd, Int.reduceSub, Int.reduceMul, Int.toNat_natCast, reduceCtorEq, decide_true, decide_false, IntWalk.i64_in, IntWalk.u64_in, IntWalk.u8_in, h7]) (by simp (disch := omega) only [go_sem, ↓IntWalk.iteOmega, IntWalk.toNatUp, Nat.reduceEqDiff, Nat.reduceAdd, Nat.reduceMul, Nat.reduceSub, Nat.reduceLT, Nat.reduceLeDiff, Int.reduceToNat, Int.reduceLT, Int.reduceLE, Int.reduceEq, Int.reduceAdd, Int.reduceSub, Int.reduceMul, Int.toNat_natCast, reduceCtorEq, decide_true, decide_false, IntWalk.i64_in, IntWalk.u64_in, IntWalk.u8_in, h8]) (by simp (disch := omega) only [go_sem, ↓IntWalk.iteOmega, IntWalk.toNatUp, Nat.reduceEqDiff, Nat.reduceAdd, Nat.reduceMul, Nat.reduceSub, Nat.reduceLT, Nat.reduceLeDiff, Int.reduceToNat, Int.reduceLT, Int.reduceLE, Int.reduceEq, Int.reduceAdd, Int.reduceSub, Int.reduceMul, Int.toNat_natCast, reduceCtorEq, decide_true, decide_false, IntWalk.i64_in, IntWalk.u64_in, IntWalk.u8_in]) (by simp (disch := omega) only [go_sem, ↓IntWalk.iteOmega, IntWalk.toNatUp, Nat.reduceEqDiff, Nat.reduceAdd, Nat.reduceMul, Nat.reduceSub, Nat.reduceLT, Nat.reduceLeDiff, Int.reduceToNat, Int.reduceLT, Int.reduceLE, Int.reduceEq, Int.reduceAdd, Int.reduceSub, Int.reduceMul, Int.toNat_natCast, reduceCtorEq, decide_true, decide_false, IntWalk.i64_in, IntWalk.u64_in, IntWalk.u8_in]) (hf1.slot (fun _ => rfl) (by omega)) (ht1.slot (fun _ => rfl) (by omega)) hff htf ?_
      intro a' o2 nx2 vf' vt' hle2 hf2 ht2 hff2 htf2 ha6 ha7 hau ho2
      have ga0 := hau 0 (by decide) (by decide) (by decide)
      have ga3 := hau 3 (by decide) (by decide) (by decide)
      have ga8 := hau 8 (by decide) (by decide) (by decide)
      clear hau
      simp only [put_app, Nat.reduceEqDiff, if_true, if_false, h0, h3, h10] at ga0 ga3 ga8
      clear h0 h3 h7 h8 h10 h6
      simp (disch := omega) only [go_sem, ↓IntWalk.iteOmega, IntWalk.toNatUp, Nat.reduceEqDiff, Nat.reduceAdd, Nat.reduceMul, Nat.reduceSub, Nat.reduceLT, Nat.reduceLeDiff, Int.reduceToNat, Int.reduceLT, Int.reduceLE, Int.reduceEq, Int.reduceAdd, Int.reduceSub, Int.reduceMul, Int.toNat_natCast, reduceCtorEq, decide_true, decide_false, IntWalk.i64_in, IntWalk.u64_in, IntWalk.u8_in, ga0, ga3, ga8, ha6, ha7]
      have k2 : QKeep t o0 nx0 o2 := (hkp.trans k1 hnx).trans (fun i' j' hi' _ _ _ => ho2 i' j' (.inl hi')) (by omega)
      have ho32 := (ho2 r 3 (.inr (by decide))).trans (k1.row ho3 hrn (fun e => absurd e (by decide)) (by decide) (by decide))
      have hqs : ∀ b m, QAt o1 nx1 t b m → QAt o2 (nx2 + 1) t b m := fun b m h => h.slot (fun i' j' hj' => ho2 i' j' (.inr (by omega))) (by omega)
      refine ⟨_, ?_, i + 1, vf', vt', by omega, rfl, by omega, by omega, rfl, rfl, ?_, ho32, rfl, k2⟩
      · omega
      · rcases hres with ⟨u1, u2, u3⟩ | ⟨u1, b', u2, u3⟩
        · refine .inl ⟨_, out ++ [(s', e')], hqs _ _ u3, qpre_part hx.1 hpre u1, by rw [hbp, u2], by simp [hout], hf2.slot (fun _ => rfl) (by omega), ht2.slot (fun _ => rfl) (by omega), hff2, htf2⟩
        · refine .inr ⟨b', u2, hqs _ _ u3, ?_⟩
          rw [hbp]
          exact Nat.lt_of_lt_of_le u1 (bParts_lo (okNs_drop hk _) _ _)
    · have hdr : ks.drop i = [] := List.drop_of_length_le (by omega)
      rw [hdr, bPartL, bParts] at hbp
      simp (disch := omega) only [go_sem, ↓IntWalk.iteOmega, IntWalk.toNatUp, Nat.reduceEqDiff, Nat.reduceAdd, Nat.reduceMul, Nat.reduceSub, Nat.reduceLT, Nat.reduceLeDiff, Int.reduceToNat, Int.reduceLT, Int.reduceLE, Int.reduceEq, Int.reduceAdd, Int.reduceSub, Int.reduceMul, Int.toNat_natCast, reduceCtorEq, decide_true, decide_false, IntWalk.i64_in, IntWalk.u64_in, IntWalk.u8_in, h0, h3, h7, h8, h10, hrow, ho3]
      exact hQ1 _ _ _ b out vf vt (by omega) (hB.new (fun _ _ _ => rfl) (by omega)) hpre hbp (by omega) (hf.slot (fun _ => rfl) (by omega)) (ht.slot (fun _ => rfl) (by omega)) (by simp (disch := omega) only [go_sem, ↓IntWalk.iteOmega, IntWalk.toNatUp, Nat.reduceEqDiff, Nat.reduceAdd, Nat.reduceMul, Nat.reduceSub, Nat.reduceLT, Nat.reduceLeDiff, Int.reduceToNat, Int.reduceLT, Int.reduceLE, Int.reduceEq, Int.reduceAdd, Int.reduceSub, Int.reduceMul, Int.toNat_natCast, reduceCtorEq, decide_true, decide_false, IntWalk.i64_in, IntWalk.u64_in, IntWalk.u8_in, h7]) (by simp (disch := omega) only [go_sem, ↓IntWalk.iteOmega, IntWalk.toNatUp, Nat.reduceEqDiff, Nat.reduceAdd, Nat.reduceMul, Nat.reduceSub, Nat.reduceLT, Nat.reduceLeDiff, Int.reduceToNat, Int.reduceLT, Int.reduceLE, Int.reduceEq, Int.reduceAdd, Int.reduceSub, Int.reduceMul, Int.toNat_natCast, reduceCtorEq, decide_true, decide_false, IntWalk.i64_in, IntWalk.u64_in, IntWalk.u8_in, h8]) (by simp (disch := omega) only [go_sem, ↓IntWalk.iteOmega, IntWalk.toNatUp, Nat.reduceEqDiff, Nat.reduceAdd, Nat.reduceMul, Nat.reduceSub, Nat.reduceLT, Nat.reduceLeDiff, Int.reduceToNat, Int.reduceLT, Int.reduceLE, Int.reduceEq, Int.reduceAdd, Int.reduceSub, Int.reduceMul, Int.toNat_natCast, reduceCtorEq, decide_true, decide_false, IntWalk.i64_in, IntWalk.u64_in, IntWalk.u8_in, h0]) hkp
  · have hB'' := hB'
    obtain ⟨vS, vF, hR⟩ := hB''
    have hrow := hR.row
    by_cases hlt : i < ks.length
    · simp (disch := omega) only [go_sem, ↓IntWalk.iteOmega, IntWalk.toNatUp, Nat.reduceEqDiff, Nat.reduceAdd, Nat.reduceMul, Nat.reduceSub, Nat.reduceLT, Nat.reduceLeDiff, Int.reduceToNat, Int.reduceLT, Int.reduceLE, Int.reduceEq, Int.reduceAdd, Int.reduceSub, Int.reduceMul, Int.toNat_natCast, reduceCtorEq, decide_true, decide_false, IntWalk.i64_in, IntWalk.u64_in, IntWalk.u8_in, h0, h3, h7, h8, h10, hrow, ho3]
      exact hQ2 _ _ _ b' (by omega) (hB'.new (fun _ _ _ => rfl) (by omega)) hn' hmuch (by simp (disch := omega) only [go_sem, ↓IntWalk.iteOmega, IntWalk.toNatUp, Nat.reduceEqDiff, Nat.reduceAdd, Nat.reduceMul, Nat.reduceSub, Nat.reduceLT, Nat.reduceLeDiff, Int.reduceToNat, Int.reduceLT, Int.reduceLE, Int.reduceEq, Int.reduceAdd, Int.reduceSub, Int.reduceMul, Int.toNat_natCast, reduceCtorEq, decide_true, decide_false, IntWalk.i64_in, IntWalk.u64_in, IntWalk.u8_in, h0]) hkp
    · simp (disch := omega) only [go_sem, ↓IntWalk.iteOmega, IntWalk.toNatUp, Nat.reduceEqDiff, Nat.reduceAdd, Nat.reduceMul, Nat.reduceSub, Nat.reduceLT, Nat.reduceLeDiff, Int.reduceToNat, Int.reduceLT, Int.reduceLE, Int.reduceEq, Int.reduceAdd, Int.reduceSub, Int.reduceMul, Int.toNat_natCast, reduceCtorEq, decide_true, decide_false, IntWalk.i64_in, IntWalk.u64_in, IntWalk.u8_in, h0, h3, h7, h8, h10, hrow, ho3]
      exact hQ2 _ _ _ b' (by omega) (hB'.new (fun _ _ _ => rfl) (by omega)) hn' hmuch (by simp (disch := omega) only [go_sem, ↓IntWalk.iteOmega, IntWalk.toNatUp, Nat.reduceEqDiff, Nat.reduceAdd, Nat.reduceMul, Nat.reduceSub, Nat.reduceLT, Nat.reduceLeDiff, Int.reduceToNat, Int.reduceLT, Int.reduceLE, Int.reduceEq, Int.reduceAdd, Int.reduceSub, Int.reduceMul, Int.toNat_natCast, reduceCtorEq, decide_true, decide_false, IntWalk.i64_in, IntWalk.u64_in, IntWalk.u8_in, h0]) hkp
theorem qlink_loop {cr : CallR} (hF : cr 63 = cRel QFree) {t : Nat} {o0 : Ob} {nx0 : Nat} {T b : BS} {p : List (Int × Int)} {vf vt : AV} {a : AAct} {o : Ob} {nx : Nat} {Q : WPost} (hlen : p.length ≤ 10) (hpos : 0 < p.length) (hnx : nx0 ≤ nx) (hB : QAt o nx t b false) (hT : b.frees (links p) = T) (hbf : b.f.length ≤ 1000000) (hf : IAt 39 o nx vf (fstL p)) (ht : IAt 43 o nx vt (sndL p)) (h11 : a 11 = .int .i64 0)
    (hmore : a 0 = bp t ∧ a 6 = vf ∧ a 7 = vt ∧ QKeep t o0 nx0 o)
    (hQ : ∀ a o nx, nx0 ≤ nx → QAt o nx t T false → IAt 39 o nx vf (fstL p) → IAt 43 o nx vt (sndL p) → a 6 = vf → a 7 = vt → QKeep t o0 nx0 o → Q .normal a o nx) :
    WP (EX md0 (fun _ _ => none)) cr 30 (fun _ => none) (pathC [1, 1, 1, 1, 0, 1, 0] (Try.f55.body.getD .skip)) a o nx (blockQ 2 Q) := by
  simp only [Try.f55, Option.getD_some, pathC]
  refine WP_loop (fun m a o nx => ∃ (i : Nat) (b : BS), i + 1 ≤ p.length ∧ m = p.length - 1 - i ∧ nx0 ≤ nx ∧ QAt o nx t b false ∧ b.frees (links (p.drop i)) = T ∧ b.f.length ≤ 1000000 + i ∧ IAt 39 o nx vf (fstL p) ∧ IAt 43 o nx vt (sndL p) ∧ a 11 = .int .i64 i ∧ a 0 = bp t ∧ a 6 = vf ∧ a 7 = vt ∧ QKeep t o0 nx0 o) (p.length - 1) (by omega) ⟨0, b, by omega, by omega, hnx, hB, hT, by omega, hf, ht, h11, hmore⟩ ?_
  clear hmore h11 hB hT hbf hf ht hnx
  rintro m a o nx ⟨i, b, hi, rfl, hnx, hB, hT, hbf, hf, ht, h11, h0, h6, h7, hkp⟩
  have hf' := hf
  have ht' := ht
  rcases hf with ⟨_, e1, _⟩ | ⟨i1, g1, rfl, hi1, hrow1, hlen1⟩
  · simp only [List.length_map] at e1; omega
  rcases ht with ⟨_, e1, _⟩ | ⟨i2, g2, rfl, hi2, hrow2, hlen2⟩
  · simp only [List.length_map] at e1; omega
  simp only [List.length_map] at h6 h7
  by_cases hlt : i + 1 < p.length
  · have g0 := snd_get (show i < p.length by omega)
    have g1' := fst_get hlt
    rw [links_next hlt, frees_cons] at hT
    simp (disch := omega) only [go_sem, ↓IntWalk.iteOmega, IntWalk.toNatUp, Nat.reduceEqDiff, Nat.reduceAdd, Nat.reduceMul, Nat.reduceSub, Nat.reduceLT, Nat.reduceLeDiff, Int.reduceToNat, Int.reduceLT, Int.reduceLE, Int.reduceEq, Int.reduceAdd, Int.reduceSub, Int.reduceMul, Int.toNat_natCast, reduceCtorEq, decide_true, decide_false, IntWalk.i64_in, IntWalk.u64_in, IntWalk.u8_in, h0, h6, h7, h11, hrow1, hrow2, g0, g1', hF]
    refine qfree_call (hB.new (fun _ _ _ => rfl) (by omega)) _ _ (by omega) ?_
    intro o1 nx1 hle1 hB1 hk1
    have k1 : QKeep t o nx o1 := fun i j (hi : i < nx) => hk1 i j (by omega)
    simp (disch := omega) only [go_sem, ↓IntWalk.iteOmega, IntWalk.toNatUp, Nat.reduceEqDiff, Nat.reduceAdd, Nat.reduceMul, Nat.reduceSub, Nat.reduceLT, Nat.reduceLeDiff, Int.reduceToNat, Int.reduceLT, Int.reduceLE, Int.reduceEq, Int.reduceAdd, Int.reduceSub, Int.reduceMul, Int.toNat_natCast, reduceCtorEq, decide_true, decide_false, IntWalk.i64_in, IntWalk.u64_in, IntWalk.u8_in, h0, h6, h7, h11, hF]
    refine ⟨_, ?_, i + 1, _, by omega, rfl, by omega, hB1.new (fun _ _ _ => rfl) (by omega), hT, by simp only [BS.free_f, List.length_append, List.length_cons, List.length_nil]; omega, hf'.keep k1 (by decide) (by decide) (by decide) (by omega), ht'.keep k1 (by decide) (by decide) (by decide) (by omega), rfl, by simp, by simp, hkp.trans k1 hnx⟩
    omega
  · rw [links_last (by omega), frees_nil] at hT
    simp (disch := omega) only [go_sem, ↓IntWalk.iteOmega, IntWalk.toNatUp, Nat.reduceEqDiff, Nat.reduceAdd, Nat.reduceMul, Nat.reduceSub, Nat.reduceLT, Nat.reduceLeDiff, Int.reduceToNat, Int.reduceLT, Int.reduceLE, Int.reduceEq, Int.reduceAdd, Int.reduceSub, Int.reduceMul, Int.toNat_natCast, reduceCtorEq, decide_true, decide_false, IntWalk.i64_in, IntWalk.u64_in, IntWalk.u8_in, h0, h6, h7, h11, hF]
    exact hQ _ _ _ (by omega) (hT ▸ hB.new (fun _ _ _ => rfl) (by omega)) (hf'.slot (fun _ => rfl) (by omega)) (ht'.slot (fun _ => rfl) (by omega)) (by simp (disch := omega) only [go_sem, ↓IntWalk.iteOmega, IntWalk.toNatUp, Nat.reduceEqDiff, Nat.reduceAdd, Nat.reduceMul, Nat.reduceSub, Nat.reduceLT, Nat.reduceLeDiff, Int.reduceToNat, Int.reduceLT, Int.reduceLE, Int.reduceEq, Int.reduceAdd, Int.reduceSub, Int.reduceMul, Int.toNat_natCast, reduceCtorEq, decide_true, decide_false, IntWalk.i64_in, IntWalk.u64_in, IntWalk.u8_in, h6]; simp) (by simp (disch := omega) only [go_sem, ↓IntWalk.iteOmega, IntWalk.toNatUp, Nat.reduceEqDiff, Nat.reduceAdd, Nat.reduceMul, Nat.reduceSub, Nat.reduceLT, Nat.reduceLeDiff, Int.reduceToNat, Int.reduceLT, Int.reduceLE, Int.reduceEq, Int.reduceAdd, Int.reduceSub, Int.reduceMul, Int.toNat_natCast, reduceCtorEq, decide_true, decide_false, IntWalk.i64_in, IntWalk.u64_in, IntWalk.u8_in, h7]; simp) hkp
theorem lookQJoin (X) : lookedAt (EX md0 X) (fun _ => none) 2 Try.f55 = true := by kernel_rfl
theorem qjoin_ok {set lo hi : Int} {l : List Nd} (hk : okNs l = true) (hl : 0 < l.length ∧ l.length ≤ 10) (hpart : ∀ x ∈ l, ∀ t o nx b, QAt o nx t b false → QPre b → ∃ v H', QPart [bp t, nodeV x] ⟨o, nx⟩ v H') {t : Nat} {o : Ob} {nx : Nat} {b : BS} (h : QAt o nx t b false) (hp : QPre b) :
    ∃ v H', QJoin [bp t, nodeV (.mk 4 set lo hi l)] ⟨o, nx⟩ v H' := by
  obtain ⟨cr, hcr⟩ : ∃ cr, cr = tabLookR tabQPart := ⟨_, rfl⟩
  have hP : cr 35 = cRel QPart := by rw [hcr]; rfl
  have hF : cr 63 = cRel QFree := by rw [hcr]; rfl
  have hbr : bJoin (bPartL l) b = if (bParts (bPartL l) b []).2.n > 1000 ∨ (bParts (bPartL l) b []).1 = [] then ((0, 0), (bParts (bPartL l) b []).2) else ((((bParts (bPartL l) b []).1.headD (0, 0)).1, ((bParts (bPartL l) b []).1.getLastD (0, 0)).2), (bParts (bPartL l) b []).2.frees (links (bParts (bPartL l) b []).1)) := rfl
  obtain ⟨z, hz⟩ : ∃ z, z = bJoin (bPartL l) b := ⟨_, rfl⟩
  rw [← hz] at hbr
  obtain ⟨v, H', h1, h2⟩ := okR_of_WP (E := EX md0 (fun _ _ => none)) (cr := cr) (cp_none _) (hcr ▸ crQPart_ok) mixed (k := 30) (args := [bp t, nodeV (.mk 4 set lo hi l)]) (o := o) (nx := nx) (Post := fun v o' nx' => QRes z t v ⟨o, nx⟩ ⟨o', nx'⟩) Try.func55 (lookQJoin _) rfl (by
    clear hcr
    have hnew : ∀ y, ∀ i j, i < nx → upd o (nx, 3) y (i, j) = o (i, j) := fun y i j hi => by simp (disch := omega) only [upd_fst]
    simp only [Try.f55, Option.getD_some]
    obtain ⟨c7, h7⟩ : ∃ c, c = pathC [1, 1, 1] (Try.f55.body.getD .skip) := ⟨_, rfl⟩
    have h7' := h7
    simp only [Try.f55, Option.getD_some, pathC] at h7'
    rw [← h7']
    clear h7'
    simp (disch := omega) only [go_sem, ↓IntWalk.iteOmega, IntWalk.toNatUp, Nat.reduceEqDiff, Nat.reduceAdd, Nat.reduceMul, Nat.reduceSub, Nat.reduceLT, Nat.reduceLeDiff, Int.reduceToNat, Int.reduceLT, Int.reduceLE, Int.reduceEq, Int.reduceAdd, Int.reduceSub, Int.reduceMul, Int.toNat_natCast, reduceCtorEq, decide_true, decide_false, IntWalk.i64_in, IntWalk.u64_in, IntWalk.u8_in]
    refine qjoin_loop (set := set) (lo := lo) (hi := hi) (r := nx) (b0 := b) (o0 := o) (nx0 := nx) hk hl.2 hpart hP (Nat.le_refl nx) (by omega) (by omega) (h.new (hnew _) (by omega)) hp (upd_same _ _ _) (by simp (disch := omega) only [go_sem, ↓IntWalk.iteOmega, IntWalk.toNatUp, Nat.reduceEqDiff, Nat.reduceAdd, Nat.reduceMul, Nat.reduceSub, Nat.reduceLT, Nat.reduceLeDiff, Int.reduceToNat, Int.reduceLT, Int.reduceLE, Int.reduceEq, Int.reduceAdd, Int.reduceSub, Int.reduceMul, Int.toNat_natCast, reduceCtorEq, decide_true, decide_false, IntWalk.i64_in, IntWalk.u64_in, IntWalk.u8_in]) (by simp (disch := omega) only [go_sem, ↓IntWalk.iteOmega, IntWalk.toNatUp, Nat.reduceEqDiff, Nat.reduceAdd, Nat.reduceMul, Nat.reduceSub, Nat.reduceLT, Nat.reduceLeDiff, Int.reduceToNat, Int.reduceLT, Int.reduceLE, Int.reduceEq, Int.reduceAdd, Int.reduceSub, Int.reduceMul, Int.toNat_natCast, reduceCtorEq, decide_true, decide_false, IntWalk.i64_in, IntWalk.u64_in, IntWalk.u8_in]) (by simp (disch := omega) only [go_sem, ↓IntWalk.iteOmega, IntWalk.toNatUp, Nat.reduceEqDiff, Nat.reduceAdd, Nat.reduceMul, Nat.reduceSub, Nat.reduceLT, Nat.reduceLeDiff, Int.reduceToNat, Int.reduceLT, Int.reduceLE, Int.reduceEq, Int.reduceAdd, Int.reduceSub, Int.reduceMul, Int.toNat_natCast, reduceCtorEq, decide_true, decide_false, IntWalk.i64_in, IntWalk.u64_in, IntWalk.u8_in]) (by simp (disch := omega) only [go_sem, ↓IntWalk.iteOmega, IntWalk.toNatUp, Nat.reduceEqDiff, Nat.reduceAdd, Nat.reduceMul, Nat.reduceSub, Nat.reduceLT, Nat.reduceLeDiff, Int.reduceToNat, Int.reduceLT, Int.reduceLE, Int.reduceEq, Int.reduceAdd, Int.reduceSub, Int.reduceMul, Int.toNat_natCast, reduceCtorEq, decide_true, decide_false, IntWalk.i64_in, IntWalk.u64_in, IntWalk.u8_in]) (by simp (disch := omega) only [go_sem, ↓IntWalk.iteOmega, IntWalk.toNatUp, Nat.reduceEqDiff, Nat.reduceAdd, Nat.reduceMul, Nat.reduceSub, Nat.reduceLT, Nat.reduceLeDiff, Int.reduceToNat, Int.reduceLT, Int.reduceLE, Int.reduceEq, Int.reduceAdd, Int.reduceSub, Int.reduceMul, Int.toNat_natCast, reduceCtorEq, decide_true, decide_false, IntWalk.i64_in, IntWalk.u64_in, IntWalk.u8_in]) (QKeep.new (hnew _)) ?_ ?_
    · intro a o3 nx3 b3 out vf vt hnx3 hB3 hp3 hbp hout hf ht h6 h7a h0 k3
      rw [hbp] at hbr
      dsimp only at hbr
      have hnn := hp3.n
      have hff := hp3.f
      have hpos : 0 < out.length := by omega
      rw [if_neg (fun h => h.elim (fun h => by omega) (fun h => by rw [h] at hpos; simp at hpos))] at hbr
      rw [h7]
      simp only [Try.f55, Option.getD_some, pathC]
      have hrow := hB3
      obtain ⟨vS, vF, hrow⟩ := hrow
      replace hrow := hrow.row
      simp (disch := omega) only [go_sem, ↓IntWalk.iteOmega, IntWalk.toNatUp, Nat.reduceEqDiff, Nat.reduceAdd, Nat.reduceMul, Nat.reduceSub, Nat.reduceLT, Nat.reduceLeDiff, Int.reduceToNat, Int.reduceLT, Int.reduceLE, Int.reduceEq, Int.reduceAdd, Int.reduceSub, Int.reduceMul, Int.toNat_natCast, reduceCtorEq, decide_true, decide_false, IntWalk.i64_in, IntWalk.u64_in, IntWalk.u8_in, h0, h6, h7a, hrow]
      refine qlink_loop hF (p := out) (T := z.2) (b := b3) (o0 := o) (nx0 := nx) (vf := vf) (vt := vt) (by omega) hpos (by omega) (hB3.new (fun _ _ _ => rfl) (by omega)) (by rw [hbr]) (by omega) (hf.slot (fun _ => rfl) (by omega)) (ht.slot (fun _ => rfl) (by omega)) (by simp (disch := omega) only [go_sem, ↓IntWalk.iteOmega, IntWalk.toNatUp, Nat.reduceEqDiff, Nat.reduceAdd, Nat.reduceMul, Nat.reduceSub, Nat.reduceLT, Nat.reduceLeDiff, Int.reduceToNat, Int.reduceLT, Int.reduceLE, Int.reduceEq, Int.reduceAdd, Int.reduceSub, Int.reduceMul, Int.toNat_natCast, reduceCtorEq, decide_true, decide_false, IntWalk.i64_in, IntWalk.u64_in, IntWalk.u8_in]) ⟨by simp (disch := omega) only [go_sem, ↓IntWalk.iteOmega, IntWalk.toNatUp, Nat.reduceEqDiff, Nat.reduceAdd, Nat.reduceMul, Nat.reduceSub, Nat.reduceLT, Nat.reduceLeDiff, Int.reduceToNat, Int.reduceLT, Int.reduceLE, Int.reduceEq, Int.reduceAdd, Int.reduceSub, Int.reduceMul, Int.toNat_natCast, reduceCtorEq, decide_true, decide_false, IntWalk.i64_in, IntWalk.u64_in, IntWalk.u8_in, h0], by simp (disch := omega) only [go_sem, ↓IntWalk.iteOmega, IntWalk.toNatUp, Nat.reduceEqDiff, Nat.reduceAdd, Nat.reduceMul, Nat.reduceSub, Nat.reduceLT, Nat.reduceLeDiff, Int.reduceToNat, Int.reduceLT, Int.reduceLE, Int.reduceEq, Int.reduceAdd, Int.reduceSub, Int.reduceMul, Int.toNat_natCast, reduceCtorEq, decide_true, decide_false, IntWalk.i64_in, IntWalk.u64_in, IntWalk.u8_in, h6], by simp (disch := omega) only [go_sem, ↓IntWalk.iteOmega, IntWalk.toNatUp, Nat.reduceEqDiff, Nat.reduceAdd, Nat.reduceMul, Nat.reduceSub, Nat.reduceLT, Nat.reduceLeDiff, Int.reduceToNat, Int.reduceLT, Int.reduceLE, Int.reduceEq, Int.reduceAdd, Int.reduceSub, Int.reduceMul, Int.toNat_natCast, reduceCtorEq, decide_true, decide_false, IntWalk.i64_in, IntWalk.u64_in, IntWalk.u8_in, h7a], k3⟩ ?_
      clear h0 h6 h7a hrow hf ht k3 hB3
      intro a o4 nx4 hnx4 hB4 hf ht h6 h7a k4
      rcases hf with ⟨_, e1, _⟩ | ⟨i1, g1, rfl, hi1, hrow1, hlen1⟩
      · simp only [List.length_map] at e1; omega
      rcases ht with ⟨_, e1, _⟩ | ⟨i2, g2, rfl, hi2, hrow2, hlen2⟩
      · simp only [List.length_map] at e1; omega
      simp only [List.length_map] at h6 h7a
      have g0 := fst_get (p := out) (i := 0) hpos
      rw [List.drop_zero] at g0
      have g1' := snd_get (p := out) (i := out.length - 1) (by omega)
      simp (disch := omega) only [go_sem, ↓IntWalk.iteOmega, IntWalk.toNatUp, Nat.reduceEqDiff, Nat.reduceAdd, Nat.reduceMul, Nat.reduceSub, Nat.reduceLT, Nat.reduceLeDiff, Int.reduceToNat, Int.reduceLT, Int.reduceLE, Int.reduceEq, Int.reduceAdd, Int.reduceSub, Int.reduceMul, Int.toNat_natCast, reduceCtorEq, decide_true, decide_false, IntWalk.i64_in, IntWalk.u64_in, IntWalk.u8_in, h6, h7a, hrow1, hrow2, g0, g1']
      have hz1 : z.1 = ((out.headD (0, 0)).1, (out.getLastD (0, 0)).2) := by rw [hbr]
      have hh : out.getD 0 (0, 0) = out.headD (0, 0) := by cases out <;> rfl
      have hll : out.getD (out.length - 1) (0, 0) = out.getLastD (0, 0) := by
        rw [List.getLastD_eq_getLast?, List.getLast?_eq_getElem?, List.getD_eq_getElem?_getD]
      rw [hh, hll]
      refine ⟨by dsimp only; omega, k4, _, _, rfl, .inl ⟨?_, hz1.symm, hB4.new (fun _ _ _ => rfl) (by dsimp only; omega)⟩⟩
      rw [hbr]; exact hnn
    · intro a o3 nx3 b3 hnx3 hB3 hn3 hmuch h0 k3
      rw [if_pos (.inl hmuch)] at hbr
      rw [h7]
      simp only [Try.f55, Option.getD_some, pathC]
      have hrow := hB3
      obtain ⟨vS, vF, hrow⟩ := hrow
      replace hrow := hrow.row
      simp (disch := omega) only [go_sem, ↓IntWalk.iteOmega, IntWalk.toNatUp, Nat.reduceEqDiff, Nat.reduceAdd, Nat.reduceMul, Nat.reduceSub, Nat.reduceLT, Nat.reduceLeDiff, Int.reduceToNat, Int.reduceLT, Int.reduceLE, Int.reduceEq, Int.reduceAdd, Int.reduceSub, Int.reduceMul, Int.toNat_natCast, reduceCtorEq, decide_true, decide_false, IntWalk.i64_in, IntWalk.u64_in, IntWalk.u8_in, h0, hrow]
      exact ⟨by dsimp only; omega, k3, 0, 0, rfl, .inr ⟨by rw [hbr]; exact hmuch, b3, hn3, hB3.new (fun _ _ _ => rfl) (by dsimp only; omega)⟩⟩)
  refine ⟨v, H', h1, fun t' b' set' lo' hi' l' e hb => ?_⟩
  simp only [List.cons.injEq, AV.ptr.injEq, Prod.mk.injEq, AV.agg.injEq, and_true] at e
  obtain ⟨⟨rfl, _⟩, e2⟩ := e
  have e3 := cNd_inj e2
  injection e3 with _ _ _ _ r4
  rw [← (h.same hb).1, ← r4, ← hz]
  exact h2
theorem qpart_join {set lo hi : Int} {l : List Nd} (hk : okNs l = true) (hl : 0 < l.length ∧ l.length ≤ 10) (hpart : ∀ x ∈ l, ∀ t o nx b, QAt o nx t b false → QPre b → ∃ v H', QPart [bp t, nodeV x] ⟨o, nx⟩ v H') {t : Nat} {o : Ob} {nx : Nat} {b : BS} (h : QAt o nx t b false) (hp : QPre b) :
    ∃ v H', QPart [bp t, nodeV (.mk 4 set lo hi l)] ⟨o, nx⟩ v H' := by
  obtain ⟨cr, hcr⟩ : ∃ cr, cr = tabLookR tabQPart := ⟨_, rfl⟩
  have hJ : cr 55 = cRel QJoin := by rw [hcr]; rfl
  have hbq : bPart (.mk 4 set lo hi l) b = bJoin (bPartL l) b := by rw [bPart, bNode]; rfl
  obtain ⟨v, H', h1, h2⟩ := okR_of_WP (E := EX md0 (fun _ _ => none)) (cr := cr) (cp_none _) (hcr ▸ crQPart_ok) mixed (k := 30) (args := [bp t, nodeV (.mk 4 set lo hi l)]) (o := o) (nx := nx) (Post := fun v o' nx' => QRes (bPart (.mk 4 set lo hi l) b) t v ⟨o, nx⟩ ⟨o', nx'⟩) Try.func35 (lookQPart _) rfl (by
    clear hcr
    rw [hbq]
    have hnew : ∀ y, ∀ i j, i < nx → upd o (nx, 3) y (i, j) = o (i, j) := fun y i j hi => by simp (disch := omega) only [upd_fst]
    have hcn : cNd (.mk 4 set lo hi l) = [.int .i64 4, .int .i64 set, .int .i64 lo, .int .i64 hi, slN l] := cNd_mk ..
    have hrow := h
    obtain ⟨vS, vF, hrow⟩ := hrow
    have htn := hrow.lt
    replace hrow := hrow.row
    simp only [Try.f35, Option.getD_some]
    simp (disch := omega) only [go_sem, ↓IntWalk.iteOmega, IntWalk.toNatUp, Nat.reduceEqDiff, Nat.reduceAdd, Nat.reduceMul, Nat.reduceSub, Nat.reduceLT, Nat.reduceLeDiff, Int.reduceToNat, Int.reduceLT, Int.reduceLE, Int.reduceEq, Int.reduceAdd, Int.reduceSub, Int.reduceMul, Int.toNat_natCast, reduceCtorEq, decide_true, decide_false, IntWalk.i64_in, IntWalk.u64_in, IntWalk.u8_in, hJ, hrow]
    simp only [← hcn]
    have hBn : ∀ y n, nx ≤ n → QAt (upd o (nx, 3) y) n t b false := fun y n hn => h.new (hnew y) hn
    refine cRel_call (qjoin_ok hk hl hpart (hBn _ _ (by omega)) hp) fun v H' hr => ?_
    obtain ⟨g1, g2, s', e', rfl, g3⟩ := hr.2 t b set lo hi l rfl (hBn _ _ (by dsimp only; omega))
    obtain ⟨o5, nx5⟩ := H'
    dsimp only at g1 g2 g3
    simp (disch := omega) only [go_sem, ↓IntWalk.iteOmega, IntWalk.toNatUp, Nat.reduceEqDiff, Nat.reduceAdd, Nat.reduceMul, Nat.reduceSub, Nat.reduceLT, Nat.reduceLeDiff, Int.reduceToNat, Int.reduceLT, Int.reduceLE, Int.reduceEq, Int.reduceAdd, Int.reduceSub, Int.reduceMul, Int.toNat_natCast, reduceCtorEq, decide_true, decide_false, IntWalk.i64_in, IntWalk.u64_in, IntWalk.u8_in]
    exact ⟨by dsimp only; omega, (QKeep.new (hnew _)).trans g2 (by omega), s', e', rfl, g3.imp (fun ⟨u1, u2, u3⟩ => ⟨u1, u2, u3.new (fun _ _ _ => rfl) (by dsimp only; omega)⟩) (fun ⟨u1, b', u2, u3⟩ => ⟨u1, b', u2, u3.new (fun _ _ _ => rfl) (by dsimp only; omega)⟩)⟩)
  refine ⟨v, H', h1, fun t' b' x' e hb => ?_⟩
  simp only [List.cons.injEq, AV.ptr.injEq, Prod.mk.injEq, AV.agg.injEq, and_true] at e
  obtain ⟨⟨rfl, _⟩, e2⟩ := e
  rw [← (h.same hb).1, ← cNd_inj e2]
  exact h2
mutual
theorem qpart_all : ∀ (x : Nd), okQ x = true → ∀ (t : Nat) (o : Ob) (nx : Nat) (b : BS), QAt o nx t b false → QPre b → ∃ v H', QPart [bp t, nodeV x] ⟨o, nx⟩ v H'
  | .mk kind set lo hi l, hk, t, o, nx, b, h, hp => by
    have hl := qparts_all l
    have hk' := hk
    rw [okQ, Bool.and_eq_true] at hk'
    obtain ⟨hk1, hk2⟩ := hk'
    by_cases k4 : kind = 4
    · rw [if_pos (.inl k4), decide_eq_true_eq] at hk2
      subst k4
      exact qpart_join (okQs_Ns l hk1) hk2 (hl hk1) h hp
    · exact qpart_ok hk k4 (hl hk1) h hp
theorem qparts_all : ∀ (l : List Nd), okQs l = true → ∀ x ∈ l, ∀ (t : Nat) (o : Ob) (nx : Nat) (b : BS), QAt o nx t b false → QPre b → ∃ v H', QPart [bp t, nodeV x] ⟨o, nx⟩ v H'
  | [], _, x, hx => by cases hx
  | y :: l, hk, x, hx => by
    rw [okQs, Bool.and_eq_true] at hk
    rcases List.mem_cons.1 hx with e | hx
    · have := qpart_all y hk.1
      rw [e]; exact this
    · exact qparts_all l hk.2 x hx
end
end Go.Proofs.Ytcaemgpificohaa.A
/- ref6.Build: the same machine. -/
namespace Go.Proofs.Ytcaemgpificohaa.A
open Go
set_option maxRecDepth 20000
theorem lookQBuild (X) : lookedAt (EX md0 X) (fun _ => none) 1 Try.f16 = true := by kernel_rfl
theorem crQBuild_ok : CRSound Try.prog (tabLookR [(35, cRel QPart)]) ∧ Up (tabLookR [(35, cRel QPart)]) :=
  tabR_cons (tabR_nil _) fun args H v H' h => (cRel_some h).1
theorem refBuild_ok {x : Nd} (hk : okQ x = true) : Ok Try.prog 16 [nodeV x] (builtV (bPart x b0)) := by
  obtain ⟨cr, hcr⟩ : ∃ cr, cr = tabLookR [(35, cRel QPart)] := ⟨_, rfl⟩
  have hP : cr 35 = cRel QPart := by rw [hcr]; rfl
  refine ok_of_WP (E := EX md0 (fun _ _ => none)) (cr := cr) (cp_none _) (hcr ▸ crQBuild_ok) mixed (k := 0) Try.func16 (lookQBuild _) rfl ?_
  clear hcr
  simp only [Try.f16, Option.getD_some]
  simp (disch := omega) only [go_sem, ↓IntWalk.iteOmega, IntWalk.toNatUp, Nat.reduceEqDiff, Nat.reduceAdd, Nat.reduceMul, Nat.reduceSub, Nat.reduceLT, Nat.reduceLeDiff, Int.reduceToNat, Int.reduceLT, Int.reduceLE, Int.reduceEq, Int.reduceAdd, Int.reduceSub, Int.reduceMul, Int.toNat_natCast, reduceCtorEq, decide_true, decide_false, IntWalk.i64_in, IntWalk.u64_in, IntWalk.u8_in, hP]
  have hB0 : QAt (upd (upd (upd (fun x => none) (0, 1) (.row ⟨34, 1, (0, 1), false, true, cNd x⟩)) (0, 2) (.row ⟨28, 1, (0, 2), false, true, [.int .i64 0, .int .i64 0, .int .i64 0, .nil, .nil]⟩)) (1, 8) (.row ⟨72, 1, (1, 8), false, true, [.int .i64 0, .int .i64 0, .int .i64 0, .nil, .nil, .bool false]⟩)) 3 1 b0 false :=
    ⟨.nil, .nil, by omega, upd_same _ _ _, HS.nil, HS.nil⟩
  refine qpart_call (qpart_all x hk 1 _ _ b0 hB0 ⟨Nat.le_refl _, Nat.le_refl _, Nat.zero_le _⟩) hB0 ?_
  intro s e o1 nx1 hle1 hk1 hres
  have hx2 : o1 (0, 2) = some (.row ⟨28, 1, (0, 2), false, true, [.int .i64 0, .int .i64 0, .int .i64 0, .nil, .nil]⟩) := by rw [hk1 _ _ (by omega) (fun e => absurd e (by decide)) (by decide) (by decide)]; simp [upd_app]
  clear hB0 hk1
  obtain ⟨r, hr⟩ : ∃ r, r = bPart x b0 := ⟨_, rfl⟩
  rw [← hr] at hres ⊢
  rcases hres with ⟨u1, u2, u3⟩ | ⟨u1, b', u2, u3⟩
  · have e1 : builtV r = .tup [nfaV r.2.n s e r.2.s r.2.f, .int .i64 0] := by rw [builtV, if_neg (by omega), ← u2]
    rw [e1]
    obtain ⟨vS, vF, hB⟩ := u3
    have r1 := hB.lt
    have r2 := hB.row
    have r3 := hB.s.ok
    have r4 := hB.f.ok
    have s0 := cS_inj (x := r.2.s) (y := [])
    have f0 := cP_inj (x := r.2.f) (y := [])
    rcases hB.s with ⟨rfl, q2, q3⟩ | ⟨i1, g1, rfl, hi1, hrow, hlen⟩
    · rcases hB.f with ⟨rfl, q5, q6⟩ | ⟨i2, g2, rfl, hi2, hrow2, hlen2⟩
      · simp (disch := omega) only [go_sem, ↓IntWalk.iteOmega, IntWalk.toNatUp, Nat.reduceEqDiff, Nat.reduceAdd, Nat.reduceMul, Nat.reduceSub, Nat.reduceLT, Nat.reduceLeDiff, Int.reduceToNat, Int.reduceLT, Int.reduceLE, Int.reduceEq, Int.reduceAdd, Int.reduceSub, Int.reduceMul, Int.toNat_natCast, reduceCtorEq, decide_true, decide_false, IntWalk.i64_in, IntWalk.u64_in, IntWalk.u8_in, hx2, r2]
        rw [s0 q3, f0 q6]
        rfl
      · simp (disch := omega) only [go_sem, ↓IntWalk.iteOmega, IntWalk.toNatUp, Nat.reduceEqDiff, Nat.reduceAdd, Nat.reduceMul, Nat.reduceSub, Nat.reduceLT, Nat.reduceLeDiff, Int.reduceToNat, Int.reduceLT, Int.reduceLE, Int.reduceEq, Int.reduceAdd, Int.reduceSub, Int.reduceMul, Int.toNat_natCast, reduceCtorEq, decide_true, decide_false, IntWalk.i64_in, IntWalk.u64_in, IntWalk.u8_in, hx2, r2, hrow2]
        rw [s0 q3]
        rfl
    · rcases hB.f with ⟨rfl, q5, q6⟩ | ⟨i2, g2, rfl, hi2, hrow2, hlen2⟩
      · simp (disch := omega) only [go_sem, ↓IntWalk.iteOmega, IntWalk.toNatUp, Nat.reduceEqDiff, Nat.reduceAdd, Nat.reduceMul, Nat.reduceSub, Nat.reduceLT, Nat.reduceLeDiff, Int.reduceToNat, Int.reduceLT, Int.reduceLE, Int.reduceEq, Int.reduceAdd, Int.reduceSub, Int.reduceMul, Int.toNat_natCast, reduceCtorEq, decide_true, decide_false, IntWalk.i64_in, IntWalk.u64_in, IntWalk.u8_in, hx2, r2, hrow]
        rw [f0 q6]
        rfl
      · simp (disch := omega) only [go_sem, ↓IntWalk.iteOmega, IntWalk.toNatUp, Nat.reduceEqDiff, Nat.reduceAdd, Nat.reduceMul, Nat.reduceSub, Nat.reduceLT, Nat.reduceLeDiff, Int.reduceToNat, Int.reduceLT, Int.reduceLE, Int.reduceEq, Int.reduceAdd, Int.reduceSub, Int.reduceMul, Int.toNat_natCast, reduceCtorEq, decide_true, decide_false, IntWalk.i64_in, IntWalk.u64_in, IntWalk.u8_in, hx2, r2, hrow, hrow2]
  · have e1 : builtV r = .tup [nfaV 0 0 0 [] [], .int .i64 4] := by rw [builtV, if_pos u1]
    rw [e1]
    obtain ⟨vS, vF, hB⟩ := u3
    have r2 := hB.row
    simp (disch := omega) only [go_sem, ↓IntWalk.iteOmega, IntWalk.toNatUp, Nat.reduceEqDiff, Nat.reduceAdd, Nat.reduceMul, Nat.reduceSub, Nat.reduceLT, Nat.reduceLeDiff, Int.reduceToNat, Int.reduceLT, Int.reduceLE, Int.reduceEq, Int.reduceAdd, Int.reduceSub, Int.reduceMul, Int.toNat_natCast, reduceCtorEq, decide_true, decide_false, IntWalk.i64_in, IntWalk.u64_in, IntWalk.u8_in, hx2, r2]
    rfl
end Go.Proofs.Ytcaemgpificohaa.A
/- What is built is a machine that may be; raw expressions' trees. -/
namespace Go.Proofs.Ytcaemgpificohaa.A
open Go
set_option maxRecDepth 20000
def InN (n : Nat) (v : Int) : Prop := 0 ≤ v ∧ v < (n : Int)
theorem InN.mono {n n' : Nat} {v : Int} (h : InN n v) (hn : n ≤ n') : InN n' v := ⟨h.1, by have := h.2; omega⟩
structure WB (b : BS) : Prop where
  f : ∀ p ∈ b.f, InN b.n p.1 ∧ InN b.n p.2
  s : ∀ q ∈ b.s, InN b.n q.1 ∧ InN b.n q.2.1 ∧ 1 ≤ q.2.2 ∧ q.2.2 ≤ 31
theorem WB.state {b : BS} (h : WB b) : WB b.state := ⟨fun p hp => ⟨(h.f p hp).1.mono (Nat.le_succ _), (h.f p hp).2.mono (Nat.le_succ _)⟩, fun q hq => ⟨(h.s q hq).1.mono (Nat.le_succ _), (h.s q hq).2.1.mono (Nat.le_succ _), (h.s q hq).2.2⟩⟩
theorem WB.frees {b : BS} (h : WB b) {l : List (Int × Int)} (hl : ∀ p ∈ l, InN b.n p.1 ∧ InN b.n p.2) : WB (b.frees l) := ⟨fun p hp => by
  rcases List.mem_append.1 hp with hp | hp
  · exact h.f p hp
  · exact hl p hp, h.s⟩
def GoodF (f : BF) : Prop := ∀ b, WB b → WB (f b).2 ∧ InN (f b).2.n (f b).1.1 ∧ InN (f b).2.n (f b).1.2 ∧ b.n ≤ (f b).2.n
theorem parts_good : ∀ (fs : List BF) (b : BS) (out : List (Int × Int)), (∀ f ∈ fs, GoodF f) → WB b → (∀ p ∈ out, InN b.n p.1 ∧ InN b.n p.2) → WB (bParts fs b out).2 ∧ (∀ p ∈ (bParts fs b out).1, InN (bParts fs b out).2.n p.1 ∧ InN (bParts fs b out).2.n p.2) ∧ b.n ≤ (bParts fs b out).2.n ∧ (fs ≠ [] → 0 < (bParts fs b out).2.n)
  | [], b, out, _, hb, ho => ⟨hb, ho, Nat.le_refl _, fun h => absurd rfl h⟩
  | f :: fs, b, out, hf, hb, ho => by
    rw [bParts]
    by_cases hn : b.n > 1000
    · rw [if_pos hn]
      exact ⟨hb, fun p hp => (by cases hp), Nat.le_refl _, fun _ => by show 0 < b.n; omega⟩
    · rw [if_neg hn]
      obtain ⟨h1, h2, h3, h4⟩ := hf f List.mem_cons_self b hb
      obtain ⟨g1, g2, g3, _⟩ := parts_good fs (f b).2 (out ++ [(f b).1]) (fun g hg => hf g (List.mem_cons_of_mem _ hg)) h1 (fun p hp => by
        rcases List.mem_append.1 hp with hp | hp
        · exact ⟨(ho p hp).1.mono h4, (ho p hp).2.mono h4⟩
        · rw [List.mem_singleton.1 hp]; exact ⟨h2, h3⟩)
      exact ⟨g1, g2, Nat.le_trans h4 g3, fun _ => by have := h2.1; have := h2.2; omega⟩
theorem in_self (n : Nat) : InN (n + 1) (n : Int) := ⟨by omega, by omega⟩
theorem once_good {f : BF} (hf : GoodF f) (ar bk : Bool) : GoodF (bOnce f ar bk) := by
  intro b hb
  obtain ⟨h1, h2, h3, h4⟩ := hf b.state hb.state
  have e1 : b.state.n = b.n + 1 := rfl
  have e2 : (f b.state).2.state.n = (f b.state).2.n + 1 := rfl
  have i0 : InN (f b.state).2.state.n (b.n : Int) := ⟨by omega, by rw [e2]; omega⟩
  have i1 : InN (f b.state).2.state.n ((f b.state).2.n : Int) := by rw [e2]; exact in_self _
  have i2 := h2.mono (n' := (f b.state).2.state.n) (by rw [e2]; omega)
  have i3 := h3.mono (n' := (f b.state).2.state.n) (by rw [e2]; omega)
  refine ⟨h1.state.frees (fun p hp => ?_), i0, i1, by show b.n ≤ (f b.state).2.n + 1; omega⟩
  simp only [List.mem_append] at hp
  rcases hp with ((hp | hp) | hp) | hp
  · rw [List.mem_singleton.1 hp]; exact ⟨i0, i2⟩
  · split at hp
    · rw [List.mem_singleton.1 hp]; exact ⟨i0, i1⟩
    · cases hp
  · split at hp
    · rw [List.mem_singleton.1 hp]; exact ⟨i3, i2⟩
    · cases hp
  · rw [List.mem_singleton.1 hp]; exact ⟨i3, i1⟩
theorem links_good {n : Nat} : ∀ (l : List (Int × Int)), (∀ p ∈ l, InN n p.1 ∧ InN n p.2) → ∀ p ∈ links l, InN n p.1 ∧ InN n p.2
  | [], _, p, hp => by rw [links] at hp; cases hp; intro _ _ _ h; cases h
  | [_], _, p, hp => by rw [links] at hp; cases hp; intro _ _ _ h; cases h
  | a :: b :: l, h, p, hp => by
    rw [links] at hp
    rcases List.mem_cons.1 hp with rfl | hp
    · exact ⟨(h a List.mem_cons_self).2, (h b (List.mem_cons_of_mem _ List.mem_cons_self)).1⟩
    · exact links_good (b :: l) (fun p hp => h p (List.mem_cons_of_mem _ hp)) p hp
theorem rLinks_good {n : Nat} {lo e : Int} (he : InN n e) : ∀ (i : Nat) (l : List (Int × Int)), (∀ p ∈ l, InN n p.1 ∧ InN n p.2) → ∀ p ∈ rLinks lo e i l, InN n p.1 ∧ InN n p.2
  | i, [], _, p, hp => by rw [rLinks] at hp; cases hp
  | i, [a], h, p, hp => by rw [rLinks] at hp; rw [List.mem_singleton.1 hp]; exact ⟨(h a List.mem_cons_self).2, he⟩
  | i, a :: b :: l, h, p, hp => by
    rw [rLinks] at hp
    rcases List.mem_append.1 hp with hp | hp
    · split at hp
      · rw [List.mem_singleton.1 hp]; exact ⟨(h a List.mem_cons_self).2, he⟩
      · cases hp
    · rcases List.mem_cons.1 hp with rfl | hp
      · exact ⟨(h a List.mem_cons_self).2, (h b (List.mem_cons_of_mem _ List.mem_cons_self)).1⟩
      · exact rLinks_good he (i + 1) (b :: l) (fun p hp => h p (List.mem_cons_of_mem _ hp)) p hp
theorem rep_good {f : BF} (hf : GoodF f) (lo : Int) (k : Nat) : GoodF (bRepeat lo k f) := by
  intro b hb
  obtain ⟨h1, h2, h3, _⟩ := parts_good (List.replicate k f) b.state [] (fun g hg => by rw [List.eq_of_mem_replicate hg]; exact hf) hb.state (fun p hp => by cases hp)
  have hbr : bRepeat lo k f b = if (bParts (List.replicate k f) b.state []).2.state.n > 1000 then (((b.n : Int), ((bParts (List.replicate k f) b.state []).2.n : Int)), (bParts (List.replicate k f) b.state []).2.state) else (((b.n : Int), ((bParts (List.replicate k f) b.state []).2.n : Int)), (bParts (List.replicate k f) b.state []).2.state.frees (headL b.n (bParts (List.replicate k f) b.state []).1 ++ rLinks lo (bParts (List.replicate k f) b.state []).2.n 0 (bParts (List.replicate k f) b.state []).1 ++ (if lo = 0 then [((b.n : Int), ((bParts (List.replicate k f) b.state []).2.n : Int))] else []))) := rfl
  obtain ⟨r, hr⟩ : ∃ r, r = bParts (List.replicate k f) b.state [] := ⟨_, rfl⟩
  rw [← hr] at h1 h2 h3 hbr
  have e1 : b.state.n = b.n + 1 := rfl
  have e2 : r.2.state.n = r.2.n + 1 := rfl
  have i0 : InN r.2.state.n (b.n : Int) := ⟨by omega, by rw [e2]; omega⟩
  have i1 : InN r.2.state.n (r.2.n : Int) := by rw [e2]; exact in_self _
  have h2' : ∀ p ∈ r.1, InN r.2.state.n p.1 ∧ InN r.2.state.n p.2 := fun p hp => ⟨(h2 p hp).1.mono (by rw [e2]; omega), (h2 p hp).2.mono (by rw [e2]; omega)⟩
  rw [hbr]
  split
  · exact ⟨h1.state, i0, i1, by show b.n ≤ r.2.n + 1; omega⟩
  · refine ⟨h1.state.frees (fun p hp => ?_), i0, i1, by show b.n ≤ r.2.n + 1; omega⟩
    rcases List.mem_append.1 hp with hp | hp
    · rcases List.mem_append.1 hp with hp | hp
      · cases hr1 : r.1 with
        | nil => rw [hr1] at hp; cases hp
        | cons a l =>
          rw [hr1] at hp h2'
          rw [List.mem_singleton.1 hp]
          exact ⟨i0, (h2' a List.mem_cons_self).1⟩
      · exact rLinks_good i1 0 r.1 h2' p hp
    · split at hp
      · rw [List.mem_singleton.1 hp]; exact ⟨i0, i1⟩
      · cases hp
theorem union_good {fs : List BF} (hf : ∀ f ∈ fs, GoodF f) : GoodF (bUnion fs) := by
  intro b hb
  obtain ⟨h1, h2, h3, _⟩ := parts_good fs b.state [] hf hb.state (fun p hp => by cases hp)
  have hbr : bUnion fs b = (((b.n : Int), ((bParts fs b.state []).2.n : Int)), (bParts fs b.state []).2.state.frees (uLinks b.n (bParts fs b.state []).2.n (bParts fs b.state []).1)) := rfl
  obtain ⟨r, hr⟩ : ∃ r, r = bParts fs b.state [] := ⟨_, rfl⟩
  rw [← hr] at h1 h2 h3 hbr
  have e1 : b.state.n = b.n + 1 := rfl
  have e2 : r.2.state.n = r.2.n + 1 := rfl
  have i0 : InN r.2.state.n (b.n : Int) := ⟨by omega, by rw [e2]; omega⟩
  have i1 : InN r.2.state.n (r.2.n : Int) := by rw [e2]; exact in_self _
  rw [hbr]
  refine ⟨h1.state.frees (fun p hp => ?_), i0, i1, by show b.n ≤ r.2.n + 1; omega⟩
  obtain ⟨q, hq, hp⟩ := List.mem_flatMap.1 hp
  have q1 := (h2 q hq).1.mono (n' := r.2.state.n) (by rw [e2]; omega)
  have q2 := (h2 q hq).2.mono (n' := r.2.state.n) (by rw [e2]; omega)
  rcases List.mem_cons.1 hp with rfl | hp
  · exact ⟨i0, q1⟩
  · rw [List.mem_singleton.1 hp]; exact ⟨q2, i1⟩
theorem getLastD_mem {α : Type} {l : List α} (h : l ≠ []) (d : α) : l.getLastD d ∈ l := by
  rw [List.getLastD_eq_getLast?, List.getLast?_eq_some_getLast h]
  exact List.getLast_mem h
theorem join_good {fs : List BF} (hf : ∀ f ∈ fs, GoodF f) (hne : fs ≠ []) : GoodF (bJoin fs) := by
  intro b hb
  obtain ⟨h1, h2, h3, h4⟩ := parts_good fs b [] hf hb (fun p hp => by cases hp)
  have hbr : bJoin fs b = if (bParts fs b []).2.n > 1000 ∨ (bParts fs b []).1 = [] then ((0, 0), (bParts fs b []).2) else ((((bParts fs b []).1.headD (0, 0)).1, ((bParts fs b []).1.getLastD (0, 0)).2), (bParts fs b []).2.frees (links (bParts fs b []).1)) := rfl
  obtain ⟨r, hr⟩ : ∃ r, r = bParts fs b [] := ⟨_, rfl⟩
  rw [← hr] at h1 h2 h3 h4 hbr
  have hpos := h4 hne
  rw [hbr]
  split
  · exact ⟨h1, ⟨Int.le_refl _, by show (0 : Int) < r.2.n; omega⟩, ⟨Int.le_refl _, by show (0 : Int) < r.2.n; omega⟩, h3⟩
  · rename_i hc
    have hne' : r.1 ≠ [] := fun e => hc (.inr e)
    refine ⟨h1.frees (links_good r.1 h2), ?_, ?_, h3⟩
    · cases hr1 : r.1 with
      | nil => exact absurd hr1 hne'
      | cons a l => rw [hr1] at h2; exact (h2 a List.mem_cons_self).1
    · exact (h2 _ (getLastD_mem hne' _)).2
mutual
/-- The sets of its signs may be. -/
def okS : Nd → Bool
  | .mk kind set _ _ l => okSs l && (if kind = 1 then decide (1 ≤ set ∧ set ≤ 31) else true)
def okSs : List Nd → Bool
  | [] => true
  | x :: l => okS x && okSs l
end
theorem leaf_good {kind set : Int} (h : kind = 1 → 1 ≤ set ∧ set ≤ 31) : GoodF (bLeaf kind set) := by
  intro b hb
  have i0 : InN (b.n + 1 + 1) (b.n : Int) := ⟨by omega, by omega⟩
  have i1 : InN (b.n + 1 + 1) ((b.n : Int) + 1) := ⟨by omega, by omega⟩
  have hw := hb.state.state
  unfold bLeaf
  dsimp only
  by_cases k1 : kind = 1
  · rw [if_pos k1]
    refine ⟨⟨hw.f, fun q hq => ?_⟩, i0, i1, by show b.n ≤ b.n + 1 + 1; omega⟩
    rcases List.mem_append.1 hq with hq | hq
    · exact hw.s q hq
    · rw [List.mem_singleton.1 hq]; exact ⟨i0, i1, h k1⟩
  rw [if_neg k1]
  split
  · refine ⟨⟨fun p hp => ?_, hw.s⟩, i0, i1, by show b.n ≤ b.n + 1 + 1; omega⟩
    rcases List.mem_append.1 hp with hp | hp
    · exact hw.f p hp
    · rw [List.mem_singleton.1 hp]; exact ⟨i0, i1⟩
  · exact ⟨hw, i0, i1, by show b.n ≤ b.n + 1 + 1; omega⟩
mutual
theorem part_good : ∀ (x : Nd), okN x = true → okS x = true → GoodF (bPart x)
  | .mk kind set lo hi l, hk, hs => by
    rw [okN, Bool.and_eq_true] at hk
    rw [okS, Bool.and_eq_true] at hs
    obtain ⟨hk1, hk2⟩ := hk
    have hl := parts_good' l hk1 hs.1
    rw [bPart]
    have hd : 0 < l.length → GoodF ((bPartL l).headD fun b => ((0, 0), b)) := fun h => by
      cases l with
      | nil => exact absurd h (by simp)
      | cons x l => exact hl _ (by rw [bPartL]; exact List.mem_cons_self)
    have hne : 0 < l.length → bPartL l ≠ [] := fun h e => by
      have := congrArg List.length e
      rw [bPartL_length] at this
      simp only [List.length_nil] at this; omega
    unfold bNode
    by_cases k4 : kind = 4
    · rw [if_pos k4]
      rw [if_pos (.inl k4), decide_eq_true_eq] at hk2
      exact join_good hl (hne hk2.1)
    by_cases k5 : kind = 5
    · rw [if_neg k4, if_pos k5]
      exact union_good hl
    by_cases k6 : kind = 6
    · rw [if_neg k4, if_neg k5, if_pos k6]
      rw [if_pos (.inr (.inr (.inl k6))), decide_eq_true_eq] at hk2
      exact once_good (hd hk2.1) _ _
    by_cases k7 : kind = 7
    · rw [if_neg k4, if_neg k5, if_neg k6, if_pos k7]
      rw [if_pos (.inr (.inr (.inr (.inl k7)))), decide_eq_true_eq] at hk2
      exact once_good (hd hk2.1) _ _
    by_cases k8 : kind = 8
    · rw [if_neg k4, if_neg k5, if_neg k6, if_neg k7, if_pos k8]
      rw [if_pos (.inr (.inr (.inr (.inr k8)))), decide_eq_true_eq] at hk2
      exact once_good (hd hk2.1) _ _
    by_cases k9 : kind = 9
    · rw [if_neg k4, if_neg k5, if_neg k6, if_neg k7, if_neg k8, if_pos k9]
      rw [if_neg (by omega), if_pos k9, decide_eq_true_eq] at hk2
      exact rep_good (hd hk2.1) _ _
    rw [if_neg k4, if_neg k5, if_neg k6, if_neg k7, if_neg k8, if_neg k9]
    exact leaf_good (fun k1 => by have := hs.2; rw [if_pos k1, decide_eq_true_eq] at this; exact this)
theorem parts_good' : ∀ (l : List Nd), okNs l = true → okSs l = true → ∀ f ∈ bPartL l, GoodF f
  | [], _, _, f, hf => by rw [bPartL] at hf; cases hf
  | x :: l, hk, hs, f, hf => by
    rw [okNs, Bool.and_eq_true] at hk
    rw [okSs, Bool.and_eq_true] at hs
    rw [bPartL] at hf
    rcases List.mem_cons.1 hf with e | hf
    · have := part_good x hk.1 hs.1
      rw [e]; exact this
    · exact parts_good' l hk.2 hs.2 f hf
end
theorem wb0 : WB b0 := ⟨fun p hp => (by cases hp), fun q hq => (by cases hq)⟩
/-- What is built may be. -/
theorem built_chk {x : Nd} (hk : okN x = true) (hs : okS x = true) (hn : (bPart x b0).2.n ≤ 1000) : chk (bPart x b0).2.n (bPart x b0).1.1 (bPart x b0).1.2 (bPart x b0).2.s (bPart x b0).2.f = true := by
  obtain ⟨h1, h2, h3, _⟩ := part_good x hk hs b0 wb0
  have hb := part_bd x hk b0
  have := hb.f4; have := hb.s1
  have e1 : b0.n = 0 := rfl
  have e2 : b0.f.length = 0 := rfl
  have e3 : b0.s.length = 0 := rfl
  have := h2.1; have := h2.2; have := h3.1; have := h3.2
  unfold chk
  rw [Bool.and_eq_true, Bool.and_eq_true, decide_eq_true_eq]
  refine ⟨⟨by omega, by omega, by omega, by omega, h2, h3⟩, ?_, ?_⟩
  · rw [List.all_eq_true]; intro q hq; unfold okS'; rw [decide_eq_true_eq]; exact h1.s q hq
  · rw [List.all_eq_true]; intro p hp; unfold okF'; rw [decide_eq_true_eq]; exact h1.f p hp
end Go.Proofs.Ytcaemgpificohaa.A
/- Raw expressions' trees are right; ref6.Same. -/
namespace Go.Proofs.Ytcaemgpificohaa.A
open Go
set_option maxRecDepth 20000
theorem sign_in (x : Int) : 1 ≤ sign x ∧ sign x ≤ 31 := by
  have h1 := Int.emod_nonneg x (show (5 : Int) ≠ 0 by decide)
  have h2 := Int.emod_lt_of_pos x (show (0 : Int) < 5 by decide)
  unfold sign
  obtain ⟨m, hm⟩ : ∃ m, m = x % 5 := ⟨_, rfl⟩
  rw [← hm] at h1 h2 ⊢
  have : m = 0 ∨ m = 1 ∨ m = 2 ∨ m = 3 ∨ m = 4 := by omega
  rcases this with rfl | rfl | rfl | rfl | rfl <;> decide
/-- Right, and not high. -/
def okT (h : Nat) (x : Nd) : Prop := okQ x = true ∧ okS x = true ∧ hN x ≤ h
theorem okT.mono {h h' x} (hx : okT h x) (hh : h ≤ h') : okT h' x := ⟨hx.1, hx.2.1, Nat.le_trans hx.2.2 hh⟩
theorem okT_leaf {set : Int} (h : 1 ≤ set ∧ set ≤ 31) : okT 1 (.mk 1 set 0 0 []) := by
  refine ⟨by rw [okQ, okQs]; rfl, ?_, by rw [hN, hNs]; omega⟩
  rw [okS, okSs, if_pos rfl, Bool.true_and, decide_eq_true_eq]; exact h
theorem okT_list : ∀ (l : List Nd) (h : Nat), (∀ x ∈ l, okT h x) → okQs l = true ∧ okSs l = true ∧ hNs l ≤ h
  | [], h, _ => ⟨by rw [okQs], by rw [okSs], by rw [hNs]; omega⟩
  | x :: l, h, hl => by
    obtain ⟨h1, h2, h3⟩ := hl x List.mem_cons_self
    obtain ⟨g1, g2, g3⟩ := okT_list l h (fun y hy => hl y (List.mem_cons_of_mem _ hy))
    rw [okQs, okSs, hNs, h1, h2, g1, g2]
    exact ⟨rfl, rfl, by omega⟩
theorem partN_ok (n : Int) (ls : List Nd) (h : Nat) (h1 : 1 ≤ h) (hl : ∀ x ∈ ls, okT h x) (i : Nat) : okT h (partN n ls i) := by
  unfold partN
  split
  · rename_i hi; exact hl _ (nd_mem hi)
  · exact (okT_leaf (sign_in _)).mono h1
theorem many_ok (n : Int) (ls : List Nd) (h : Nat) (h1 : 1 ≤ h) (hl : ∀ x ∈ ls, okT h x) (k : Nat) : ∀ x ∈ (List.range k).map (partN n ls), okT h x := by
  intro x hx
  obtain ⟨i, _, rfl⟩ := List.mem_map.1 hx
  exact partN_ok n ls h h1 hl i
theorem many4_le (n : Nat) : 2 ≤ many4 n ∧ many4 n ≤ 4 := by unfold many4; split <;> (try split) <;> omega
theorem buildN_ok (k n : Int) (ls : List Nd) (h : Nat) (h1 : 1 ≤ h) (hl : ∀ x ∈ ls, okT h x) : okT (h + 1) (buildN k n ls) := by
  have hm := many4_le ls.length
  have hp0 := partN_ok n ls h h1 hl 0
  have n4 : 0 ≤ n % 4 ∧ n % 4 < 4 := ⟨Int.emod_nonneg _ (by decide), Int.emod_lt_of_pos _ (by decide)⟩
  have n3 : 0 ≤ IntKind.i64.wrap (n.tdiv 4) % 3 ∧ IntKind.i64.wrap (n.tdiv 4) % 3 < 3 := ⟨Int.emod_nonneg _ (by decide), Int.emod_lt_of_pos _ (by decide)⟩
  have n31 : 0 ≤ n % 31 ∧ n % 31 < 31 := ⟨Int.emod_nonneg _ (by decide), Int.emod_lt_of_pos _ (by decide)⟩
  have hlist := okT_list _ h (many_ok n ls h h1 hl (many4 ls.length))
  have hlen : ((List.range (many4 ls.length)).map (partN n ls)).length = many4 ls.length := by simp
  have one : okQs [partN n ls 0] = true ∧ okSs [partN n ls 0] = true ∧ hNs [partN n ls 0] ≤ h := okT_list _ h (fun x hx => by rw [List.mem_singleton.1 hx]; exact hp0)
  unfold buildN
  repeat' split
  · exact (okT_leaf ⟨by omega, by omega⟩).mono (by omega)
  · exact (okT_leaf (sign_in _)).mono (by omega)
  · exact ⟨by rw [okQ, okQs]; rfl, by rw [okS, okSs]; rfl, by rw [hN, hNs]; omega⟩
  · exact ⟨by rw [okQ, okQs]; rfl, by rw [okS, okSs]; rfl, by rw [hN, hNs]; omega⟩
  · exact ⟨by rw [okQ, hlist.1, if_pos (.inl rfl), hlen, Bool.true_and, decide_eq_true_eq]; omega, by rw [okS, hlist.2.1]; rfl, by rw [hN]; omega⟩
  · exact ⟨by rw [okQ, hlist.1, if_pos (.inr rfl), hlen, Bool.true_and, decide_eq_true_eq]; omega, by rw [okS, hlist.2.1]; rfl, by rw [hN]; omega⟩
  · exact ⟨by rw [okQ, one.1]; rfl, by rw [okS, one.2.1]; rfl, by rw [hN]; omega⟩
  · exact ⟨by rw [okQ, one.1]; rfl, by rw [okS, one.2.1]; rfl, by rw [hN]; omega⟩
  · exact ⟨by rw [okQ, one.1]; rfl, by rw [okS, one.2.1]; rfl, by rw [hN]; omega⟩
  · refine ⟨?_, by rw [okS, one.2.1]; rfl, by rw [hN]; omega⟩
    rw [okQ, one.1, if_neg (by decide), if_neg (by decide), if_pos rfl, Bool.true_and, decide_eq_true_eq]
    simp only [List.length_cons, List.length_nil]
    omega
theorem fold_le {f : List Rw → Int} (hf : ∀ l, 0 ≤ f l) : ∀ (l : List Rw) (n : Int), l.foldl (szStep f) n ≤ 14 → n ≤ 14 ∧ ∀ r ∈ l, f (kids r) ≤ 14 ∨ n < 0
  | [], n, h => ⟨h, fun r hr => by cases hr⟩
  | r :: l, n, h => by
    rw [List.foldl_cons] at h
    obtain ⟨h1, h2⟩ := fold_le hf l _ h
    have := hf (kids r)
    unfold szStep at h1 h2
    split at h1
    · rename_i hn
      rw [if_pos hn] at h2
      refine ⟨by omega, fun q hq => ?_⟩
      rcases List.mem_cons.1 hq with rfl | hq
      · omega
      · have := h2 q hq; omega
    · omega
theorem makeNs_mem : ∀ {l : List Rw} {x : Nd}, x ∈ makeNs l → ∃ r ∈ l, x = makeN r
  | [], x, h => by rw [makeNs] at h; cases h
  | r :: l, x, h => by
    rw [makeNs] at h
    rcases List.mem_cons.1 h with rfl | h
    · exact ⟨r, List.mem_cons_self, rfl⟩
    · obtain ⟨q, hq, e⟩ := makeNs_mem h
      exact ⟨q, List.mem_cons_of_mem _ hq, e⟩
theorem made_ok : ∀ (d : Nat) (l : List Rw), szD d l ≤ 14 → ∀ r ∈ l, okT (d + 1) (makeN r)
  | 0, l, h, _, _ => by rw [szD] at h; omega
  | d + 1, l, h, r, hr => by
    rw [szD] at h
    obtain ⟨_, h2⟩ := fold_le (fun l => (sz_in d l).1) l 0 h
    have h3 : szD d (kids r) ≤ 14 := by have := h2 r hr; omega
    obtain ⟨k, n, ch⟩ := r
    have ih := made_ok d ch h3
    rw [makeN]
    exact buildN_ok k n _ (d + 1) (by omega) (fun x hx => by obtain ⟨q, hq, rfl⟩ := makeNs_mem hx; exact ih q hq)
theorem oneN_ok {l : List Rw} (h : fewR l = true) : okT 8 (oneN l) := by
  unfold fewR at h
  rw [decide_eq_true_eq] at h
  unfold oneN
  cases l with
  | nil => exact (okT_leaf ⟨by omega, by omega⟩).mono (by omega)
  | cons r l => exact made_ok 7 _ h r List.mem_cons_self
/-! ### the same machine -/
theorem aBin_aggneq (P : Program) (t : TypeId) (x y : List AV) : aBin P .neq t (.agg x) (.agg y) = (eqLeaves P t).bind fun l => (eqLeafs l x y).map fun z => .bool (!z) := rfl
theorem aBin_aggeql (P : Program) (t : TypeId) (x y : List AV) : aBin P .eql t (.agg x) (.agg y) = (eqLeaves P t).bind fun l => (eqLeafs l x y).map .bool := rfl
theorem leaves_step : eqLeaves Try.prog 48 = some [.int, .int, .int] := by kernel_rfl
theorem leaves_pair : eqLeaves Try.prog 49 = some [.int, .int] := by kernel_rfl
theorem eqLeafs3 (a b c a' b' c' : Int) : eqLeafs [.int, .int, .int] [.int .i64 a, .int .i64 b, .int .i64 c] [.int .i64 a', .int .i64 b', .int .i64 c'] = some (decide (a = a') && (decide (b = b') && (decide (c = c') && true))) := by
  simp only [eqLeafs, eqLeaf, if_true]; rfl
theorem eqLeafs2 (a b a' b' : Int) : eqLeafs [.int, .int] [.int .i64 a, .int .i64 b] [.int .i64 a', .int .i64 b'] = some (decide (a = a') && (decide (b = b') && true)) := by
  simp only [eqLeafs, eqLeaf, if_true]; rfl
theorem lookSame (X) : lookedAt (EX md0 X) (fun _ => none) 2 Try.f17 = true := by kernel_rfl
theorem same_ok (N S F : Int) (ss : List (Int × Int × Int)) (fs : List (Int × Int)) (hs : ss.length ≤ 100000) (hf : fs.length ≤ 100000) : Ok Try.prog 17 [nfaV N S F ss fs, nfaV N S F ss fs] (.bool true) := by
  refine ok_of_WP (E := EX md0 (fun _ _ => none)) (cr := noR) (cp_none _) (noR_ok _) mixed (k := 100002) Try.func17 (lookSame _) rfl ?_
  simp only [Try.f17, Option.getD_some]
  have e1 := leaves_step
  have e2 := leaves_pair
  simp (disch := omega) only [go_sem, ↓IntWalk.iteOmega, IntWalk.toNatUp, Nat.reduceEqDiff, Nat.reduceAdd, Nat.reduceMul, Nat.reduceSub, Nat.reduceLT, Nat.reduceLeDiff, Int.reduceToNat, Int.reduceLT, Int.reduceLE, Int.reduceEq, Int.reduceAdd, Int.reduceSub, Int.reduceMul, Int.toNat_natCast, reduceCtorEq, decide_true, decide_false, IntWalk.i64_in, IntWalk.u64_in, IntWalk.u8_in]
  refine WP_loop (fun m a o nx => ∃ i : Nat, i ≤ ss.length ∧ m = ss.length - i ∧ a 2 = .ptr (0, 2) (0, 2) 0 ∧ a 3 = .ptr (0, 3) (0, 3) 0 ∧ a 5 = .int .i64 i ∧ o (0, 2) = some (.row ⟨28, 1, (0, 2), false, true, [.int .i64 N, .int .i64 S, .int .i64 F, .sl ss.length (cS ss), .sl fs.length (cP fs)]⟩) ∧ o (0, 3) = some (.row ⟨28, 1, (0, 3), false, true, [.int .i64 N, .int .i64 S, .int .i64 F, .sl ss.length (cS ss), .sl fs.length (cP fs)]⟩)) ss.length (by omega) ⟨0, by omega, by omega, by simp (disch := omega) only [go_sem, ↓IntWalk.iteOmega, IntWalk.toNatUp, Nat.reduceEqDiff, Nat.reduceAdd, Nat.reduceMul, Nat.reduceSub, Nat.reduceLT, Nat.reduceLeDiff, Int.reduceToNat, Int.reduceLT, Int.reduceLE, Int.reduceEq, Int.reduceAdd, Int.reduceSub, Int.reduceMul, Int.toNat_natCast, reduceCtorEq, decide_true, decide_false, IntWalk.i64_in, IntWalk.u64_in, IntWalk.u8_in], by simp (disch := omega) only [go_sem, ↓IntWalk.iteOmega, IntWalk.toNatUp, Nat.reduceEqDiff, Nat.reduceAdd, Nat.reduceMul, Nat.reduceSub, Nat.reduceLT, Nat.reduceLeDiff, Int.reduceToNat, Int.reduceLT, Int.reduceLE, Int.reduceEq, Int.reduceAdd, Int.reduceSub, Int.reduceMul, Int.toNat_natCast, reduceCtorEq, decide_true, decide_false, IntWalk.i64_in, IntWalk.u64_in, IntWalk.u8_in], by simp (disch := omega) only [go_sem, ↓IntWalk.iteOmega, IntWalk.toNatUp, Nat.reduceEqDiff, Nat.reduceAdd, Nat.reduceMul, Nat.reduceSub, Nat.reduceLT, Nat.reduceLeDiff, Int.reduceToNat, Int.reduceLT, Int.reduceLE, Int.reduceEq, Int.reduceAdd, Int.reduceSub, Int.reduceMul, Int.toNat_natCast, reduceCtorEq, decide_true, decide_false, IntWalk.i64_in, IntWalk.u64_in, IntWalk.u8_in], by simp [upd_app], by simp [upd_app]⟩ ?_
  rintro m a o nx ⟨i, hi, rfl, h2, h3, h5, o2, o3⟩
  by_cases hlt : i < ss.length
  · have hat := cS_at hlt
    simp (disch := omega) only [go_sem, ↓IntWalk.iteOmega, IntWalk.toNatUp, Nat.reduceEqDiff, Nat.reduceAdd, Nat.reduceMul, Nat.reduceSub, Nat.reduceLT, Nat.reduceLeDiff, Int.reduceToNat, Int.reduceLT, Int.reduceLE, Int.reduceEq, Int.reduceAdd, Int.reduceSub, Int.reduceMul, Int.toNat_natCast, reduceCtorEq, decide_true, decide_false, IntWalk.i64_in, IntWalk.u64_in, IntWalk.u8_in, h2, h3, h5, o2, o3, hat, aBin_aggneq, e1, eqLeafs3, decide_true]
    exact ⟨_, by omega, i + 1, by omega, rfl, rfl⟩
  · simp (disch := omega) only [go_sem, ↓IntWalk.iteOmega, IntWalk.toNatUp, Nat.reduceEqDiff, Nat.reduceAdd, Nat.reduceMul, Nat.reduceSub, Nat.reduceLT, Nat.reduceLeDiff, Int.reduceToNat, Int.reduceLT, Int.reduceLE, Int.reduceEq, Int.reduceAdd, Int.reduceSub, Int.reduceMul, Int.toNat_natCast, reduceCtorEq, decide_true, decide_false, IntWalk.i64_in, IntWalk.u64_in, IntWalk.u8_in, h2, h3, h5, o2, o3]
    clear h5
    refine WP_loop (fun m a o nx => ∃ i : Nat, i ≤ fs.length ∧ m = fs.length - i ∧ a 2 = .ptr (0, 2) (0, 2) 0 ∧ a 3 = .ptr (0, 3) (0, 3) 0 ∧ a 6 = .int .i64 i ∧ o (0, 2) = some (.row ⟨28, 1, (0, 2), false, true, [.int .i64 N, .int .i64 S, .int .i64 F, .sl ss.length (cS ss), .sl fs.length (cP fs)]⟩) ∧ o (0, 3) = some (.row ⟨28, 1, (0, 3), false, true, [.int .i64 N, .int .i64 S, .int .i64 F, .sl ss.length (cS ss), .sl fs.length (cP fs)]⟩)) fs.length (by omega) ⟨0, by omega, by omega, by simp (disch := omega) only [go_sem, ↓IntWalk.iteOmega, IntWalk.toNatUp, Nat.reduceEqDiff, Nat.reduceAdd, Nat.reduceMul, Nat.reduceSub, Nat.reduceLT, Nat.reduceLeDiff, Int.reduceToNat, Int.reduceLT, Int.reduceLE, Int.reduceEq, Int.reduceAdd, Int.reduceSub, Int.reduceMul, Int.toNat_natCast, reduceCtorEq, decide_true, decide_false, IntWalk.i64_in, IntWalk.u64_in, IntWalk.u8_in, h2], by simp (disch := omega) only [go_sem, ↓IntWalk.iteOmega, IntWalk.toNatUp, Nat.reduceEqDiff, Nat.reduceAdd, Nat.reduceMul, Nat.reduceSub, Nat.reduceLT, Nat.reduceLeDiff, Int.reduceToNat, Int.reduceLT, Int.reduceLE, Int.reduceEq, Int.reduceAdd, Int.reduceSub, Int.reduceMul, Int.toNat_natCast, reduceCtorEq, decide_true, decide_false, IntWalk.i64_in, IntWalk.u64_in, IntWalk.u8_in, h3], by simp (disch := omega) only [go_sem, ↓IntWalk.iteOmega, IntWalk.toNatUp, Nat.reduceEqDiff, Nat.reduceAdd, Nat.reduceMul, Nat.reduceSub, Nat.reduceLT, Nat.reduceLeDiff, Int.reduceToNat, Int.reduceLT, Int.reduceLE, Int.reduceEq, Int.reduceAdd, Int.reduceSub, Int.reduceMul, Int.toNat_natCast, reduceCtorEq, decide_true, decide_false, IntWalk.i64_in, IntWalk.u64_in, IntWalk.u8_in], o2, o3⟩ ?_
    clear h2 h3 o2 o3 hi hlt
    rintro m a o nx ⟨i, hi, rfl, h2, h3, h6, o2, o3⟩
    by_cases hlt : i < fs.length
    · have hat := cP_at hlt
      simp (disch := omega) only [go_sem, ↓IntWalk.iteOmega, IntWalk.toNatUp, Nat.reduceEqDiff, Nat.reduceAdd, Nat.reduceMul, Nat.reduceSub, Nat.reduceLT, Nat.reduceLeDiff, Int.reduceToNat, Int.reduceLT, Int.reduceLE, Int.reduceEq, Int.reduceAdd, Int.reduceSub, Int.reduceMul, Int.toNat_natCast, reduceCtorEq, decide_true, decide_false, IntWalk.i64_in, IntWalk.u64_in, IntWalk.u8_in, h2, h3, h6, o2, o3, hat, aBin_aggneq, e2, eqLeafs2, decide_true]
      exact ⟨_, by omega, i + 1, by omega, rfl, rfl⟩
    · simp (disch := omega) only [go_sem, ↓IntWalk.iteOmega, IntWalk.toNatUp, Nat.reduceEqDiff, Nat.reduceAdd, Nat.reduceMul, Nat.reduceSub, Nat.reduceLT, Nat.reduceLeDiff, Int.reduceToNat, Int.reduceLT, Int.reduceLE, Int.reduceEq, Int.reduceAdd, Int.reduceSub, Int.reduceMul, Int.toNat_natCast, reduceCtorEq, decide_true, decide_false, IntWalk.i64_in, IntWalk.u64_in, IntWalk.u8_in, h2, h3, h6, o2, o3]
end Go.Proofs.Ytcaemgpificohaa.A
namespace Go.Proofs.Ytcaemgpificohaa.A
open Go
set_option maxRecDepth 20000
def RBuildN (args : List AV) (r : AV) : Prop := ∃ x, okN x = true ∧ hN x ≤ 1000 ∧ args = [nodeV x] ∧ r = builtV (bPart x b0)
theorem RBuildN_fn : Fun1 RBuildN := by
  rintro args r r' ⟨x, _, _, rfl, rfl⟩ ⟨x', _, _, h, rfl⟩
  simp only [List.cons.injEq, AV.agg.injEq, and_true] at h
  rw [cNd_inj h]
theorem RBuildN_ok (args r) (h : RBuildN args r) : Ok Try.prog 14 args r := by obtain ⟨x, h1, h2, rfl, rfl⟩ := h; exact nfaBuild_ok h1 h2
def RBuildQ (args : List AV) (r : AV) : Prop := ∃ x, okQ x = true ∧ args = [nodeV x] ∧ r = builtV (bPart x b0)
theorem RBuildQ_fn : Fun1 RBuildQ := by
  rintro args r r' ⟨x, _, rfl, rfl⟩ ⟨x', _, h, rfl⟩
  simp only [List.cons.injEq, AV.agg.injEq, and_true] at h
  rw [cNd_inj h]
theorem RBuildQ_ok (args r) (h : RBuildQ args r) : Ok Try.prog 16 args r := by obtain ⟨x, h1, rfl, rfl⟩ := h; exact refBuild_ok h1
def RFew4 (args : List AV) (r : AV) : Prop := ∃ l, args = [slR l] ∧ r = .bool (fewR l)
theorem RFew4_fn : Fun1 RFew4 := by
  rintro args r r' ⟨x, rfl, rfl⟩ ⟨x', h, rfl⟩
  simp only [List.cons.injEq, AV.sl.injEq, and_true] at h
  rw [cRws_inj h.2]
theorem RFew4_ok (args r) (h : RFew4 args r) : Ok Try.prog 13 args r := by obtain ⟨x, rfl, rfl⟩ := h; exact few4_ok x
def ROne4 (args : List AV) (r : AV) : Prop := ∃ l, args = [slR l] ∧ r = nodeV (oneN l)
theorem ROne4_fn : Fun1 ROne4 := by
  rintro args r r' ⟨x, rfl, rfl⟩ ⟨x', h, rfl⟩
  simp only [List.cons.injEq, AV.sl.injEq, and_true] at h
  rw [cRws_inj h.2]
theorem ROne4_ok (args r) (h : ROne4 args r) : Ok Try.prog 15 args r := by obtain ⟨x, rfl, rfl⟩ := h; exact one_ok x
def RSame (args : List AV) (r : AV) : Prop := ∃ (N S F : Int) (ss : List (Int × Int × Int)) (fs : List (Int × Int)), ss.length ≤ 100000 ∧ fs.length ≤ 100000 ∧ args = [nfaV N S F ss fs, nfaV N S F ss fs] ∧ r = .bool true
theorem RSame_fn : Fun1 RSame := by
  rintro args r r' ⟨_, _, _, _, _, _, _, _, rfl⟩ ⟨_, _, _, _, _, _, _, _, rfl⟩; rfl
theorem RSame_ok (args r) (h : RSame args r) : Ok Try.prog 17 args r := by obtain ⟨N, S, F, ss, fs, h1, h2, rfl, rfl⟩ := h; exact same_ok N S F ss fs h1 h2
def RChk (args : List AV) (r : AV) : Prop := ∃ (N S F : Int) (ss : List (Int × Int × Int)) (fs : List (Int × Int)), args = [nfaV N S F ss fs] ∧ r = .bool (chk N S F ss fs)
theorem RChk_fn : Fun1 RChk := by
  rintro args r r' ⟨N, S, F, ss, fs, rfl, rfl⟩ ⟨N', S', F', ss', fs', h, rfl⟩
  simp only [List.cons.injEq, and_true] at h
  obtain ⟨h1, h2, h3, h4, h5⟩ := nfaV_inj h
  rw [h1, h2, h3, h4, h5]
theorem RChk_ok (args r) (h : RChk args r) : Ok Try.prog 18 args r := by obtain ⟨N, S, F, ss, fs, rfl, rfl⟩ := h; exact nfaCheck_ok N S F ss fs
noncomputable def XBs : FuncId → List AV → Option AV := tabLook [(12, tRel RKnown), (13, tRel RFew4), (15, tRel ROne4), (14, tRel RBuildN), (16, tRel RBuildQ), (17, tRel RSame), (18, tRel RChk)]
theorem XBs_ok : CPSound Try.prog XBs := tab_cons (tab_cons (tab_cons (tab_cons (tab_cons (tab_cons (tab_cons (tab_nil _) (tRel_ok RChk_ok)) (tRel_ok RSame_ok)) (tRel_ok RBuildQ_ok)) (tRel_ok RBuildN_ok)) (tRel_ok ROne4_ok)) (tRel_ok RFew4_ok)) (tRel_ok RKnown_ok)
theorem XBs_known : XBs 12 [] = some (.bool true) := tRel_eq (R := RKnown) RKnown_fn ⟨rfl, rfl⟩
theorem XBs_few (l) : XBs 13 [slR l] = some (.bool (fewR l)) := tRel_eq (R := RFew4) RFew4_fn ⟨_, rfl, rfl⟩
theorem XBs_one (l) : XBs 15 [slR l] = some (nodeV (oneN l)) := tRel_eq (R := ROne4) ROne4_fn ⟨_, rfl, rfl⟩
theorem XBs_nbuild {x : Nd} (h1 : okN x = true) (h2 : hN x ≤ 1000) : XBs 14 [nodeV x] = some (builtV (bPart x b0)) := tRel_eq (R := RBuildN) RBuildN_fn ⟨_, h1, h2, rfl, rfl⟩
theorem XBs_rbuild {x : Nd} (h1 : okQ x = true) : XBs 16 [nodeV x] = some (builtV (bPart x b0)) := tRel_eq (R := RBuildQ) RBuildQ_fn ⟨_, h1, rfl, rfl⟩
theorem XBs_same (N S F : Int) (ss fs) (h1 : List.length ss ≤ 100000) (h2 : List.length fs ≤ 100000) : XBs 17 [nfaV N S F ss fs, nfaV N S F ss fs] = some (.bool true) := tRel_eq (R := RSame) RSame_fn ⟨_, _, _, _, _, h1, h2, rfl, rfl⟩
theorem XBs_chk (N S F : Int) (ss fs) : XBs 18 [nfaV N S F ss fs] = some (.bool (chk N S F ss fs)) := tRel_eq (R := RChk) RChk_fn ⟨_, _, _, _, _, rfl, rfl⟩
theorem lookBuilds : lookedAt (EX md0 XBs) (fun _ => none) 1 Try.f3 = true := by kernel_rfl
theorem builds_ok (l : List Rw) : Ok Try.prog 3 [slR l] (.bool true) := by
  refine ok_of_WP (E := EX md0 XBs) (cr := noR) XBs_ok (noR_ok _) mixed (k := 0) Try.func3 lookBuilds rfl ?_
  have hkn := XBs_known
  have hfw := XBs_few l
  have hon := XBs_one l
  simp only [Try.f3, Option.getD_some]
  by_cases hf : fewR l = true
  · obtain ⟨t1, t2, t3⟩ := oneN_ok hf
    have hnb := XBs_nbuild (okQ_N _ t1) (by omega)
    have hqb := XBs_rbuild t1
    have hbd := part_bd _ (okQ_N _ t1) b0
    have b4 := hbd.f4
    have b5 := hbd.s1
    have z1 : b0.n = 0 := rfl
    have z2 : b0.f.length = 0 := rfl
    have z3 : b0.s.length = 0 := rfl
    rw [hf] at hfw
    by_cases hn : (bPart (oneN l) b0).2.n > 1000
    · have e : builtV (bPart (oneN l) b0) = .tup [nfaV 0 0 0 [] [], .int .i64 4] := if_pos hn
      rw [e] at hnb hqb
      have hsm := XBs_same 0 0 0 [] [] (Nat.zero_le _) (Nat.zero_le _)
      simp only [nfaV, List.length_nil, cS_nil, cP_nil] at hsm
      simp (disch := omega) only [go_sem, ↓IntWalk.iteOmega, IntWalk.toNatUp, Nat.reduceEqDiff, Nat.reduceAdd, Nat.reduceMul, Nat.reduceSub, Nat.reduceLT, Nat.reduceLeDiff, Int.reduceToNat, Int.reduceLT, Int.reduceLE, Int.reduceEq, Int.reduceAdd, Int.reduceSub, Int.reduceMul, Int.toNat_natCast, reduceCtorEq, decide_true, decide_false, IntWalk.i64_in, IntWalk.u64_in, IntWalk.u8_in, hkn, hfw, hon, hnb, hqb, hsm]
    · have e : builtV (bPart (oneN l) b0) = .tup [nfaV (bPart (oneN l) b0).2.n (bPart (oneN l) b0).1.1 (bPart (oneN l) b0).1.2 (bPart (oneN l) b0).2.s (bPart (oneN l) b0).2.f, .int .i64 0] := if_neg hn
      rw [e] at hnb hqb
      have hc := built_chk (okQ_N _ t1) t2 (by omega)
      have hsm := XBs_same (bPart (oneN l) b0).2.n (bPart (oneN l) b0).1.1 (bPart (oneN l) b0).1.2 (bPart (oneN l) b0).2.s (bPart (oneN l) b0).2.f (by omega) (by omega)
      have hch := XBs_chk (bPart (oneN l) b0).2.n (bPart (oneN l) b0).1.1 (bPart (oneN l) b0).1.2 (bPart (oneN l) b0).2.s (bPart (oneN l) b0).2.f
      rw [hc] at hch
      simp (disch := omega) only [go_sem, ↓IntWalk.iteOmega, IntWalk.toNatUp, Nat.reduceEqDiff, Nat.reduceAdd, Nat.reduceMul, Nat.reduceSub, Nat.reduceLT, Nat.reduceLeDiff, Int.reduceToNat, Int.reduceLT, Int.reduceLE, Int.reduceEq, Int.reduceAdd, Int.reduceSub, Int.reduceMul, Int.toNat_natCast, reduceCtorEq, decide_true, decide_false, IntWalk.i64_in, IntWalk.u64_in, IntWalk.u8_in, hkn, hfw, hon, hnb, hqb, hsm, hch]
  · rw [Bool.not_eq_true] at hf
    rw [hf] at hfw
    simp (disch := omega) only [go_sem, ↓IntWalk.iteOmega, IntWalk.toNatUp, Nat.reduceEqDiff, Nat.reduceAdd, Nat.reduceMul, Nat.reduceSub, Nat.reduceLT, Nat.reduceLeDiff, Int.reduceToNat, Int.reduceLT, Int.reduceLE, Int.reduceEq, Int.reduceAdd, Int.reduceSub, Int.reduceMul, Int.toNat_natCast, reduceCtorEq, decide_true, decide_false, IntWalk.i64_in, IntWalk.u64_in, IntWalk.u8_in, hkn, hfw]
end Go.Proofs.Ytcaemgpificohaa.A

namespace Go.Proofs.Ytcaemgpificohaa
open Go Go.Proofs.Ytcaemgpificohaa.A
set_option maxRecDepth 100000 in
theorem nfaBuilds_lifted (os : Os) (started : os.Started) (H : Type) (enc : TypeId × Value → H) :
    ReturnsInHanded {} Try.checked os 3 .any (Rows.nfaBuildsSpec.pre6 enc Try.prog Try.f3 Rows.nfaBuildsRow.domain false) (Rows.nfaBuildsSpec.post enc Try.prog Try.f3 false true false false) :=
  law_lifted (C := Try.checked) Try.own started (by kernel_rfl) Try.func3
    (ChangeSpec.witness6 (enc := enc) (C := Try.checked) false ⟨#[], #[.slice none 0 0], []⟩ 8 (by kernel_rfl) (by kernel_rfl) (by kernel_rfl) (by kernel_rfl))
    Try.laidOut (ks := [22, 68, 3]) (by kernel_rfl) (by kernel_rfl) (tb := 4) (by kernel_rfl) (by kernel_rfl) rfl
    (fun ds hds => by
      match ds, hds with
      | [_], _ => exact ⟨rfl, rfl, rfl⟩)
    (fun xs hxs => by
      rw [show Try.f3.params.toList = [22] from rfl] at hxs
      match xs, hxs with
      | [x1], ⟨h1, _⟩ =>
        obtain ⟨n1, rfl⟩ := arg_raws h1
        exact builds_ok n1)
theorem nfaBuilds_holds : Rows.NfaBuildsSaid :=
  OpenClaim.holds_of_wide 3 Try.f3 rfl rfl rfl rfl rfl rfl rfl ⟨rfl, rfl, rfl, rfl, rfl⟩ rfl rfl rfl rfl rfl (by kernel_rfl) Try.func3 (by kernel_rfl)
    (of_decide_eq_true (by kernel_rfl)) (by unfold Func.isWrapper; first | (rw [if_pos (by decide +kernel)]; kernel_rfl) | (rw [if_neg (by decide +kernel)]; exact ⟨rfl, rfl⟩))
    (fun os started H enc _ => nfaBuilds_lifted os started H enc)
end Go.Proofs.Ytcaemgpificohaa
