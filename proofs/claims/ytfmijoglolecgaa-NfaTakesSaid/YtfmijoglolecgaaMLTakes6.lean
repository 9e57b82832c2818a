/- size, Few, One: of raw expressions. -/
import Derived.Test.YtfmijoglolecgaaMLTakes1
import Derived.Test.YtfmijoglolecgaaMLTakes2
import Derived.Test.YtfmijoglolecgaaMLTakes3
import Derived.Test.YtfmijoglolecgaaMLTakes4
import Derived.Test.YtfmijoglolecgaaMLTakes5
set_option linter.unusedVariables false
set_option linter.unusedSimpArgs false
set_option linter.unnecessarySimpa false
namespace Go.Proofs.Ytfmijoglolecgaa.A
open Go
set_option maxRecDepth 20000
def kids : Rw → List Rw
  | .mk _ _ l => l
def szStep (f : List Rw → Int) (n : Int) (r : Rw) : Int := if n ≤ 14 then n + 1 + f (kids r) else n
def szD : Nat → List Rw → Int
  | 0, _ => 1000
  | d + 1, l => l.foldl (szStep (szD d)) 0
theorem sz_stuck {f : List Rw → Int} {n : Int} (h : ¬ n ≤ 14) : ∀ l : List Rw, l.foldl (szStep f) n = n
  | [] => rfl
  | r :: l => by rw [List.foldl_cons, szStep, if_neg h]; exact sz_stuck h l
theorem sz_in : ∀ (d : Nat) (l : List Rw), 0 ≤ szD d l ∧ szD d l ≤ 1000 + 15 * d
  | 0, l => by rw [szD]; omega
  | d + 1, l => by
    rw [szD]
    have : ∀ (l : List Rw) (n : Int), 0 ≤ n → n ≤ 1000 + 15 * (d + 1) → 0 ≤ l.foldl (szStep (szD d)) n ∧ l.foldl (szStep (szD d)) n ≤ 1000 + 15 * (d + 1) := by
      intro l
      induction l with
      | nil => exact fun n h1 h2 => ⟨h1, h2⟩
      | cons r l ih =>
        intro n h1 h2
        rw [List.foldl_cons]
        have := sz_in d (kids r)
        refine ih _ ?_ ?_ <;> unfold szStep <;> split <;> omega
    have := this l 0 (by omega) (by omega)
    omega
def RSize (d : Nat) (args : List AV) (r : AV) : Prop := ∃ l, args = [slR l, .int .i64 (7 - d)] ∧ r = .int .i64 (szD d l)
theorem RSize_fn (d) : Fun1 (RSize d) := by
  rintro args r r' ⟨l, rfl, rfl⟩ ⟨l', h, rfl⟩
  simp only [List.cons.injEq, AV.sl.injEq, and_true] at h
  rw [cRws_inj h.2]
theorem lookSize (X) : lookedAt (EX md0 X) (fun _ => none) 2 Try.f13 = true := by kernel_rfl
theorem size_ok : ∀ (d : Nat) (l : List Rw), d ≤ 7 → Ok Try.prog 13 [slR l, .int .i64 (7 - d)] (.int .i64 (szD d l))
  | 0, l, _ => by
    refine ok_of_WP (E := EX md0 (fun _ _ => none)) (cr := noR) (cp_none _) (noR_ok _) mixed (k := 20) Try.func13 (lookSize _) rfl ?_
    simp only [Try.f13, Option.getD_some, szD]
    simp (disch := omega) only [go_sem, ↓IntWalk.iteOmega, IntWalk.toNatUp, Nat.reduceEqDiff, Nat.reduceAdd, Nat.reduceMul, Nat.reduceSub, Nat.reduceLT, Nat.reduceLeDiff, Int.reduceToNat, Int.reduceLT, Int.reduceLE, Int.reduceEq, Int.reduceAdd, Int.reduceSub, Int.reduceMul, Int.toNat_natCast, reduceCtorEq, decide_true, decide_false, IntWalk.i64_in, IntWalk.u64_in, IntWalk.u8_in]
  | d + 1, l, hd => by
    refine ok_of_WP (E := EX md0 (tabLook [(13, tRel (RSize d))])) (cr := noR) (tab_cons (tab_nil _) (tRel_ok (fun args r h => by obtain ⟨l, rfl, rfl⟩ := h; exact size_ok d l (by omega)))) (noR_ok _) mixed (k := 20) Try.func13 (lookSize _) rfl ?_
    have hX : ∀ l : List Rw, tabLook [(13, tRel (RSize d))] 13 [.sl l.length (cRws l), .int .i64 (7 - d)] = some (.int .i64 (szD d l)) := fun l => tRel_eq (RSize_fn d) ⟨l, rfl, rfl⟩
    simp only [Try.f13, Option.getD_some]
    have h7 : ¬ ((7 : Int) - (d + 1 : Nat) > 6) := by omega
    simp (disch := omega) only [go_sem, ↓IntWalk.iteOmega, IntWalk.toNatUp, Nat.reduceEqDiff, Nat.reduceAdd, Nat.reduceMul, Nat.reduceSub, Nat.reduceLT, Nat.reduceLeDiff, Int.reduceToNat, Int.reduceLT, Int.reduceLE, Int.reduceEq, Int.reduceAdd, Int.reduceSub, Int.reduceMul, Int.toNat_natCast, reduceCtorEq, decide_true, decide_false, IntWalk.i64_in, IntWalk.u64_in, IntWalk.u8_in, h7]
    have hend : ∀ i, l.foldl (szStep (szD d)) 0 = (l.drop i).foldl (szStep (szD d)) ((l.take i).foldl (szStep (szD d)) 0) := fun i => by rw [← List.foldl_append, List.take_append_drop]
    refine WP_loop (fun m a o nx => ∃ (i : Nat) (s : Int), i ≤ l.length ∧ m = (15 - s).toNat ∧ a 0 = slR l ∧ a 1 = .int .i64 (7 - (d + 1 : Nat)) ∧ a 5 = .int .i64 s ∧ a 6 = .int .i64 i ∧ s = (l.take i).foldl (szStep (szD d)) 0 ∧ (i : Int) ≤ s ∧ s ≤ 2000) 15 (by omega) ⟨0, 0, by omega, rfl, by simp (disch := omega) only [go_sem, ↓IntWalk.iteOmega, IntWalk.toNatUp, Nat.reduceEqDiff, Nat.reduceAdd, Nat.reduceMul, Nat.reduceSub, Nat.reduceLT, Nat.reduceLeDiff, Int.reduceToNat, Int.reduceLT, Int.reduceLE, Int.reduceEq, Int.reduceAdd, Int.reduceSub, Int.reduceMul, Int.toNat_natCast, reduceCtorEq, decide_true, decide_false, IntWalk.i64_in, IntWalk.u64_in, IntWalk.u8_in], by simp (disch := omega) only [go_sem, ↓IntWalk.iteOmega, IntWalk.toNatUp, Nat.reduceEqDiff, Nat.reduceAdd, Nat.reduceMul, Nat.reduceSub, Nat.reduceLT, Nat.reduceLeDiff, Int.reduceToNat, Int.reduceLT, Int.reduceLE, Int.reduceEq, Int.reduceAdd, Int.reduceSub, Int.reduceMul, Int.toNat_natCast, reduceCtorEq, decide_true, decide_false, IntWalk.i64_in, IntWalk.u64_in, IntWalk.u8_in], by simp (disch := omega) only [go_sem, ↓IntWalk.iteOmega, IntWalk.toNatUp, Nat.reduceEqDiff, Nat.reduceAdd, Nat.reduceMul, Nat.reduceSub, Nat.reduceLT, Nat.reduceLeDiff, Int.reduceToNat, Int.reduceLT, Int.reduceLE, Int.reduceEq, Int.reduceAdd, Int.reduceSub, Int.reduceMul, Int.toNat_natCast, reduceCtorEq, decide_true, decide_false, IntWalk.i64_in, IntWalk.u64_in, IntWalk.u8_in], by simp (disch := omega) only [go_sem, ↓IntWalk.iteOmega, IntWalk.toNatUp, Nat.reduceEqDiff, Nat.reduceAdd, Nat.reduceMul, Nat.reduceSub, Nat.reduceLT, Nat.reduceLeDiff, Int.reduceToNat, Int.reduceLT, Int.reduceLE, Int.reduceEq, Int.reduceAdd, Int.reduceSub, Int.reduceMul, Int.toNat_natCast, reduceCtorEq, decide_true, decide_false, IntWalk.i64_in, IntWalk.u64_in, IntWalk.u8_in], rfl, by omega, by omega⟩ ?_
    rintro m a o nx ⟨i, s, hi, rfl, h0, h1, h5, h6, hs, hs0, hs1⟩
    have hi6 : (7 : Int) - (d + 1 : Nat) + 1 = 7 - d := by omega
    by_cases hlt : i < l.length
    · have hat := cRws_at hlt
      have htk : (l.take (i + 1)).foldl (szStep (szD d)) 0 = szStep (szD d) s (l.getD i default) := by rw [List.take_succ_eq_append_getElem hlt, List.foldl_append, ← hs, List.getD_eq_getElem?_getD, List.getElem?_eq_getElem hlt]; rfl
      obtain ⟨k, n, ch, hch⟩ : ∃ k n ch, l.getD i default = .mk k n ch := by cases l.getD i default with | mk k n ch => exact ⟨_, _, _, rfl⟩
      have hsz := sz_in d ch
      by_cases h14 : s ≤ 14
      · rw [hch, szStep, if_pos h14] at htk
        rw [hch] at hat
        have hx := hX ch
        simp (disch := omega) only [go_sem, ↓IntWalk.iteOmega, IntWalk.toNatUp, Nat.reduceEqDiff, Nat.reduceAdd, Nat.reduceMul, Nat.reduceSub, Nat.reduceLT, Nat.reduceLeDiff, Int.reduceToNat, Int.reduceLT, Int.reduceLE, Int.reduceEq, Int.reduceAdd, Int.reduceSub, Int.reduceMul, Int.toNat_natCast, reduceCtorEq, decide_true, decide_false, IntWalk.i64_in, IntWalk.u64_in, IntWalk.u8_in, h0, h1, h5, h6, hat, hx, hi6]
        exact ⟨_, by omega, i + 1, _, by omega, rfl, rfl, rfl, by rw [htk]; rfl, by omega, by omega⟩
      · simp (disch := omega) only [go_sem, ↓IntWalk.iteOmega, IntWalk.toNatUp, Nat.reduceEqDiff, Nat.reduceAdd, Nat.reduceMul, Nat.reduceSub, Nat.reduceLT, Nat.reduceLeDiff, Int.reduceToNat, Int.reduceLT, Int.reduceLE, Int.reduceEq, Int.reduceAdd, Int.reduceSub, Int.reduceMul, Int.toNat_natCast, reduceCtorEq, decide_true, decide_false, IntWalk.i64_in, IntWalk.u64_in, IntWalk.u8_in, h0, h1, h5, h6]
        rw [szD, hend i, ← hs, sz_stuck h14]
    · simp (disch := omega) only [go_sem, ↓IntWalk.iteOmega, IntWalk.toNatUp, Nat.reduceEqDiff, Nat.reduceAdd, Nat.reduceMul, Nat.reduceSub, Nat.reduceLT, Nat.reduceLeDiff, Int.reduceToNat, Int.reduceLT, Int.reduceLE, Int.reduceEq, Int.reduceAdd, Int.reduceSub, Int.reduceMul, Int.toNat_natCast, reduceCtorEq, decide_true, decide_false, IntWalk.i64_in, IntWalk.u64_in, IntWalk.u8_in, h0, h1, h5, h6]
      rw [szD, hend i, ← hs, List.drop_of_length_le (by omega)]
      rfl
def fewR (l : List Rw) : Bool := decide (szD 7 l ≤ 14)
theorem lookFew4 (X) : lookedAt (EX md0 X) (fun _ => none) 1 Try.f5 = true := by kernel_rfl
theorem few4_ok (l : List Rw) : Ok Try.prog 5 [slR l] (.bool (fewR l)) := by
  refine ok_of_WP (E := EX md0 (tabLook [(13, tRel (RSize 7))])) (cr := noR) (tab_cons (tab_nil _) (tRel_ok (fun args r h => by obtain ⟨l, rfl, rfl⟩ := h; exact size_ok 7 l (by omega)))) (noR_ok _) mixed (k := 0) Try.func5 (lookFew4 _) rfl ?_
  have hX : tabLook [(13, tRel (RSize 7))] 13 [.sl l.length (cRws l), .int .i64 0] = some (.int .i64 (szD 7 l)) := tRel_eq (RSize_fn 7) ⟨l, rfl, rfl⟩
  simp only [Try.f5, Option.getD_some]
  simp (disch := omega) only [go_sem, ↓IntWalk.iteOmega, IntWalk.toNatUp, Nat.reduceEqDiff, Nat.reduceAdd, Nat.reduceMul, Nat.reduceSub, Nat.reduceLT, Nat.reduceLeDiff, Int.reduceToNat, Int.reduceLT, Int.reduceLE, Int.reduceEq, Int.reduceAdd, Int.reduceSub, Int.reduceMul, Int.toNat_natCast, reduceCtorEq, decide_true, decide_false, IntWalk.i64_in, IntWalk.u64_in, IntWalk.u8_in, hX]
  rfl
def oneN (l : List Rw) : Nd := match l with | [] => .mk 1 1 0 0 [] | r :: _ => makeN r
def RMakeN (args : List AV) (r : AV) : Prop := ∃ x, args = [rawV x] ∧ r = nodeV (makeN x)
theorem RMakeN_fn : Fun1 RMakeN := by
  rintro args r r' ⟨i, rfl, rfl⟩ ⟨j, h, rfl⟩
  simp only [List.cons.injEq, AV.agg.injEq, and_true] at h
  rw [cRw_inj h]
theorem lookOne (X) : lookedAt (EX md0 X) (fun _ => none) 1 Try.f6 = true := by kernel_rfl
theorem one_ok (l : List Rw) : Ok Try.prog 6 [slR l] (nodeV (oneN l)) := by
  refine ok_of_WP (E := EX md0 (tabLook [(14, tRel RMakeN)])) (cr := noR) (tab_cons (tab_nil _) (tRel_ok (fun args r h => by obtain ⟨l, rfl, rfl⟩ := h; exact rmake_ok l))) (noR_ok _) mixed (k := 0) Try.func6 (lookOne _) rfl ?_
  simp only [Try.f6, Option.getD_some]
  cases l with
  | nil =>
    simp (disch := omega) only [go_sem, ↓IntWalk.iteOmega, IntWalk.toNatUp, Nat.reduceEqDiff, Nat.reduceAdd, Nat.reduceMul, Nat.reduceSub, Nat.reduceLT, Nat.reduceLeDiff, Int.reduceToNat, Int.reduceLT, Int.reduceLE, Int.reduceEq, Int.reduceAdd, Int.reduceSub, Int.reduceMul, Int.toNat_natCast, reduceCtorEq, decide_true, decide_false, IntWalk.i64_in, IntWalk.u64_in, IntWalk.u8_in]
    simp only [nodeV, oneN, cNd_mk, slN, cNds_nil, List.length_nil]
  | cons r l =>
    have hX : tabLook [(14, tRel RMakeN)] 14 [.agg (cRw r)] = some (nodeV (makeN r)) := tRel_eq RMakeN_fn ⟨r, rfl, rfl⟩
    have hat := cRws_cons r l
    simp (disch := omega) only [go_sem, ↓IntWalk.iteOmega, IntWalk.toNatUp, Nat.reduceEqDiff, Nat.reduceAdd, Nat.reduceMul, Nat.reduceSub, Nat.reduceLT, Nat.reduceLeDiff, Int.reduceToNat, Int.reduceLT, Int.reduceLE, Int.reduceEq, Int.reduceAdd, Int.reduceSub, Int.reduceMul, Int.toNat_natCast, reduceCtorEq, decide_true, decide_false, IntWalk.i64_in, IntWalk.u64_in, IntWalk.u8_in, hX, hat]
    rfl
end Go.Proofs.Ytfmijoglolecgaa.A
/- The builder: what it makes; its small methods. -/
namespace Go.Proofs.Ytfmijoglolecgaa.A
open Go
set_option maxRecDepth 20000
structure BS where
  n : Nat
  s : List (Int × Int × Int)
  f : List (Int × Int)
abbrev BF := BS → (Int × Int) × BS
def BS.state (b : BS) : BS := { b with n := b.n + 1 }
def BS.free (b : BS) (x y : Int) : BS := { b with f := b.f ++ [(x, y)] }
def BS.frees (b : BS) (l : List (Int × Int)) : BS := { b with f := b.f ++ l }
def BS.step (b : BS) (x y v : Int) : BS := { b with s := b.s ++ [(x, y, v)] }
def bParts : List BF → BS → List (Int × Int) → List (Int × Int) × BS
  | [], b, out => (out, b)
  | f :: fs, b, out => if b.n > 1000 then ([], b) else bParts fs (f b).2 (out ++ [(f b).1])
def bOnce (f : BF) (around back : Bool) (b : BS) : (Int × Int) × BS :=
  let r := f b.state
  ((b.n, r.2.n), r.2.state.frees ([((b.n : Int), r.1.1)] ++ (if around then [((b.n : Int), (r.2.n : Int))] else []) ++ (if back then [(r.1.2, r.1.1)] else []) ++ [(r.1.2, (r.2.n : Int))]))
def links : List (Int × Int) → List (Int × Int)
  | p :: q :: l => (p.2, q.1) :: links (q :: l)
  | _ => []
def bJoin (fs : List BF) (b : BS) : (Int × Int) × BS :=
  let r := bParts fs b []
  if r.2.n > 1000 ∨ r.1 = [] then ((0, 0), r.2) else (((r.1.headD (0, 0)).1, (r.1.getLastD (0, 0)).2), r.2.frees (links r.1))
def bUnion (fs : List BF) (b : BS) : (Int × Int) × BS :=
  let r := bParts fs b.state []
  ((b.n, r.2.n), r.2.state.frees (r.1.flatMap fun p => [((b.n : Int), p.1), (p.2, (r.2.n : Int))]))
/-- What leads on from the parts of a times, from the i-th one on. -/
def rLinks (lo : Int) (e : Int) : Nat → List (Int × Int) → List (Int × Int)
  | _, [] => []
  | _, [p] => [(p.2, e)]
  | i, p :: q :: l => (if (i : Int) + 1 ≥ lo then [(p.2, e)] else []) ++ (p.2, q.1) :: rLinks lo e (i + 1) (q :: l)
def headL (n : Int) : List (Int × Int) → List (Int × Int)
  | [] => []
  | p :: _ => [(n, p.1)]
def bRepeat (lo : Int) (hi : Nat) (f : BF) (b : BS) : (Int × Int) × BS :=
  let r := bParts (List.replicate hi f) b.state []
  if r.2.state.n > 1000 then ((b.n, r.2.n), r.2.state)
  else ((b.n, r.2.n), r.2.state.frees (headL b.n r.1 ++ rLinks lo r.2.n 0 r.1 ++ (if lo = 0 then [((b.n : Int), (r.2.n : Int))] else [])))
def bLeaf (kind set : Int) (b : BS) : (Int × Int) × BS :=
  ((b.n, b.n + 1), if kind = 1 then b.state.state.step b.n (b.n + 1) set else if kind = 3 then b.state.state.free b.n (b.n + 1) else b.state.state)
def bNode (kind set lo hi : Int) (fs : List BF) : BF :=
  if kind = 4 then bJoin fs
  else if kind = 5 then bUnion fs
  else if kind = 6 then bOnce (fs.headD (fun b => ((0, 0), b))) true true
  else if kind = 7 then bOnce (fs.headD (fun b => ((0, 0), b))) false true
  else if kind = 8 then bOnce (fs.headD (fun b => ((0, 0), b))) true false
  else if kind = 9 then bRepeat lo hi.toNat (fs.headD (fun b => ((0, 0), b)))
  else bLeaf kind set
mutual
def bPart : Nd → BF
  | .mk kind set lo hi l => bNode kind set lo hi (bPartL l)
def bPartL : List Nd → List BF
  | [] => []
  | x :: l => bPart x :: bPartL l
end
/-! ### the builder's row -/
structure BRow (o : Ob) (nx : Nat) (t : Nat) (b : BS) (vS vF : AV) : Prop where
  lt : t < nx
  row : o (t, 8) = some (.row ⟨49, 1, (t, 8), false, true, [.int .i64 b.n, .int .i64 0, .int .i64 0, vS, vF]⟩)
  s : HS 61 3 139 o nx vS b.s.length (cS b.s)
  f : HS 66 2 16 o nx vF b.f.length (cP b.f)
def BAt (o : Ob) (nx : Nat) (t : Nat) (b : BS) : Prop := ∃ vS vF, BRow o nx t b vS vF
/-- What stays. -/
def BKeep (t : Nat) (o : Ob) (nx : Nat) (o' : Ob) : Prop := ∀ i j, i < nx → (j = 8 → i ≠ t) → j ≠ 139 → j ≠ 16 → o' (i, j) = o (i, j)
theorem BKeep.refl (t o nx) : BKeep t o nx o := fun _ _ _ _ _ _ => rfl
theorem BKeep.trans {t o nx o' nx' o''} (h1 : BKeep t o nx o') (h2 : BKeep t o' nx' o'') (h : nx ≤ nx') : BKeep t o nx o'' := fun i j a b c d => by rw [h2 i j (by omega) b c d, h1 i j a b c d]
/-- What a method does: from one state to the next. -/
def BTo (t : Nat) (b' : BS) (H H' : AH) : Prop := H.nx ≤ H'.nx ∧ BAt H'.o H'.nx t b' ∧ BKeep t H.o H.nx H'.o
abbrev bp (t : Nat) : AV := .ptr (t, 8) (t, 8) 0
theorem bkeep_upd {t : Nat} {o : Ob} {nx : Nat} {x : AObj} : BKeep t o nx (upd o (t, 8) x) := fun i j hi h1 h2 h3 => upd_ne _ _ _ _ (fun e => by injection e with e1 e2; exact h1 e2 e1)
def RState (args : List AV) (H : AH) (v : AV) (H' : AH) : Prop := OkR Try.prog 27 args H v H' ∧ ∀ t b, args = [bp t] → BAt H.o H.nx t b → v = .int .i64 b.n ∧ BTo t b.state H H'
theorem lookBState (X) : lookedAt (EX md0 X) (fun _ => none) 1 Try.f27 = true := by kernel_rfl
theorem BRow.same {o nx t b vS vF} (h : BRow o nx t b vS vF) {b' vS' vF'} (h' : BRow o nx t b' vS' vF') : b.n = b'.n ∧ vS = vS' ∧ vF = vF' := by
  have := h.row.symm.trans h'.row
  simp only [Option.some.injEq, AObj.row.injEq, Row.mk.injEq, List.cons.injEq, AV.int.injEq, and_true, true_and] at this
  exact ⟨by omega, this.2⟩
theorem HS.same {e sz D o nx v n cs n' cs'} (h : HS e sz D o nx v n cs) (h' : HS e sz D o nx v n' cs') : cs = cs' := by
  rcases h with ⟨rfl, rfl, rfl⟩ | ⟨i, g, rfl, _, h3, _⟩
  · rcases h' with ⟨_, _, rfl⟩ | ⟨_, _, h, _⟩
    · rfl
    · cases h
  · rcases h' with ⟨h, _⟩ | ⟨_, _, h, _, h3', _⟩
    · cases h
    · injection h with h1 h2
      rw [← h1, ← h2, h3] at h3'
      simp only [Option.some.injEq, AObj.row.injEq, Row.mk.injEq, true_and] at h3'
      exact h3'
theorem BAt.same {o nx t b} (h : BAt o nx t b) {b'} (h' : BAt o nx t b') : b = b' := by
  obtain ⟨vS, vF, h⟩ := h
  obtain ⟨vS', vF', h'⟩ := h'
  obtain ⟨e1, rfl, rfl⟩ := h.same h'
  have e2 := cS_inj (h.s.same h'.s)
  have e3 := cP_inj (h.f.same h'.f)
  cases b; cases b'
  simp only at e1 e2 e3
  rw [e1, e2, e3]
theorem bstate_ok {t : Nat} {o : Ob} {nx : Nat} {b : BS} (h : BAt o nx t b) (hn : b.n ≤ 10000000) : ∃ v H', RState [bp t] ⟨o, nx⟩ v H' := by
  have hh := h
  obtain ⟨vS, vF, h⟩ := h
  obtain ⟨v, H', h1, h2⟩ := okR_of_WP (E := EX md0 (fun _ _ => none)) (cr := noR) (cp_none _) (noR_ok _) mixed (k := 0) (args := [bp t]) (o := o) (nx := nx) (Post := fun v o' nx' => v = .int .i64 b.n ∧ BTo t b.state ⟨o, nx⟩ ⟨o', nx'⟩) Try.func27 (lookBState _) rfl (by
    have h1 := h.lt
    have h2 := h.row
    have h3 := h.s.ok
    have h4 := h.f.ok
    simp only [Try.f27, Option.getD_some]
    simp (disch := omega) only [go_sem, ↓IntWalk.iteOmega, IntWalk.toNatUp, Nat.reduceEqDiff, Nat.reduceAdd, Nat.reduceMul, Nat.reduceSub, Nat.reduceLT, Nat.reduceLeDiff, Int.reduceToNat, Int.reduceLT, Int.reduceLE, Int.reduceEq, Int.reduceAdd, Int.reduceSub, Int.reduceMul, Int.toNat_natCast, reduceCtorEq, decide_true, decide_false, IntWalk.i64_in, IntWalk.u64_in, IntWalk.u8_in, h2, h3, h4]
    refine ⟨by rw [Int.add_sub_cancel], by show nx ≤ nx + 1 + 1 + 1; omega, ⟨vS, vF, ⟨by show t < nx + 1 + 1 + 1; omega, ?_, h.s.keep (fun _ _ => by simp [upd_app]) (by show nx ≤ nx + 1 + 1 + 1; omega), h.f.keep (fun _ _ => by simp [upd_app]) (by show nx ≤ nx + 1 + 1 + 1; omega)⟩⟩, bkeep_upd⟩
    exact upd_same _ _ _)
  refine ⟨v, H', h1, fun t' b' e hb => ?_⟩
  simp only [List.cons.injEq, AV.ptr.injEq, Prod.mk.injEq, and_true] at e
  obtain rfl := e.1
  rw [← hh.same hb]
  exact h2
theorem state_call {t : Nat} {o : Ob} {nx : Nat} {b : BS} {K : AV × AH → Prop} (h : BAt o nx t b) (hn : b.n ≤ 10000000) (hK : ∀ o' nx', nx ≤ nx' → BAt o' nx' t b.state → BKeep t o nx o' → K (.int .i64 b.n, ⟨o', nx'⟩)) :
    wO (Option.map (fun p => freezeR false p.1 p.2) (cRel RState [bp t] ⟨o, nx⟩)) K := by
  refine cRel_call (bstate_ok h hn) fun v H' hr => ?_
  obtain ⟨rfl, h1, h2, h3⟩ := hr.2 t b rfl h
  exact hK H'.o H'.nx h1 h2 h3
def RFull (args : List AV) (H : AH) (v : AV) (H' : AH) : Prop := OkR Try.prog 16 args H v H' ∧ ∀ t b, args = [bp t] → BAt H.o H.nx t b → v = .bool (decide (1000 < (b.n : Int))) ∧ BTo t b H H'
theorem lookBFull (X) : lookedAt (EX md0 X) (fun _ => none) 1 Try.f16 = true := by kernel_rfl
theorem bfull_ok {t : Nat} {o : Ob} {nx : Nat} {b : BS} (h : BAt o nx t b) : ∃ v H', RFull [bp t] ⟨o, nx⟩ v H' := by
  have hh := h
  obtain ⟨vS, vF, h⟩ := h
  obtain ⟨v, H', h1, h2⟩ := okR_of_WP (E := EX md0 (fun _ _ => none)) (cr := noR) (cp_none _) (noR_ok _) mixed (k := 0) (args := [bp t]) (o := o) (nx := nx) (Post := fun v o' nx' => v = .bool (decide (1000 < (b.n : Int))) ∧ BTo t b ⟨o, nx⟩ ⟨o', nx'⟩) Try.func16 (lookBFull _) rfl (by
    have h2 := h.row
    simp only [Try.f16, Option.getD_some]
    simp (disch := omega) only [go_sem, ↓IntWalk.iteOmega, IntWalk.toNatUp, Nat.reduceEqDiff, Nat.reduceAdd, Nat.reduceMul, Nat.reduceSub, Nat.reduceLT, Nat.reduceLeDiff, Int.reduceToNat, Int.reduceLT, Int.reduceLE, Int.reduceEq, Int.reduceAdd, Int.reduceSub, Int.reduceMul, Int.toNat_natCast, reduceCtorEq, decide_true, decide_false, IntWalk.i64_in, IntWalk.u64_in, IntWalk.u8_in, h2]
    exact ⟨by show nx ≤ nx + 1 + 1; omega, ⟨vS, vF, ⟨by have := h.lt; show t < nx + 1 + 1; omega, h2, h.s.keep (fun _ _ => rfl) (by show nx ≤ nx + 1 + 1; omega), h.f.keep (fun _ _ => rfl) (by show nx ≤ nx + 1 + 1; omega)⟩⟩, BKeep.refl _ _ _⟩)
  refine ⟨v, H', h1, fun t' b' e hb => ?_⟩
  simp only [List.cons.injEq, AV.ptr.injEq, Prod.mk.injEq, and_true] at e
  obtain rfl := e.1
  rw [← hh.same hb]
  exact h2
theorem full_call {t : Nat} {o : Ob} {nx : Nat} {b : BS} {K : AV × AH → Prop} (h : BAt o nx t b) (hK : ∀ o' nx', nx ≤ nx' → BAt o' nx' t b → BKeep t o nx o' → K (.bool (decide (1000 < (b.n : Int))), ⟨o', nx'⟩)) :
    wO (Option.map (fun p => freezeR false p.1 p.2) (cRel RFull [bp t] ⟨o, nx⟩)) K := by
  refine cRel_call (bfull_ok h) fun v H' hr => ?_
  obtain ⟨rfl, h1, h2, h3⟩ := hr.2 t b rfl h
  exact hK H'.o H'.nx h1 h2 h3
def RFree (args : List AV) (H : AH) (v : AV) (H' : AH) : Prop := OkR Try.prog 26 args H v H' ∧ ∀ t b x y, args = [bp t, .int .i64 x, .int .i64 y] → BAt H.o H.nx t b → v = .tup [] ∧ BTo t (b.free x y) H H'
theorem lookBFree (X) : lookedAt (EX md0 X) (fun _ => none) 3 Try.f26 = true := by kernel_rfl
theorem bfree_ok {t : Nat} {o : Ob} {nx : Nat} {b : BS} (h : BAt o nx t b) (x y : Int) (hn : b.f.length ≤ 100000000) : ∃ v H', RFree [bp t, .int .i64 x, .int .i64 y] ⟨o, nx⟩ v H' := by
  have hh := h
  obtain ⟨vS, vF, h⟩ := h
  obtain ⟨v, H', h1, h2⟩ := okR_of_WP (E := EX md0 (fun _ _ => none)) (cr := noR) (cp_none _) (noR_ok _) mixed (k := 0) (args := [bp t, .int .i64 x, .int .i64 y]) (o := o) (nx := nx) (Post := fun v o' nx' => v = .tup [] ∧ BTo t (b.free x y) ⟨o, nx⟩ ⟨o', nx'⟩) Try.func26 (lookBFree _) rfl (by
    have h0 := h.lt
    have h2 := h.row
    have h3 := h.s.ok
    have h4 := h.f.ok
    have hs := h.s
    simp only [Try.f26, Option.getD_some]
    rcases h.f with ⟨rfl, e2, e3⟩ | ⟨i1, g1, rfl, hi1, hrow, hlen⟩
    · simp (disch := omega) only [go_sem, ↓IntWalk.iteOmega, IntWalk.toNatUp, Nat.reduceEqDiff, Nat.reduceAdd, Nat.reduceMul, Nat.reduceSub, Nat.reduceLT, Nat.reduceLeDiff, Int.reduceToNat, Int.reduceLT, Int.reduceLE, Int.reduceEq, Int.reduceAdd, Int.reduceSub, Int.reduceMul, Int.toNat_natCast, reduceCtorEq, decide_true, decide_false, IntWalk.i64_in, IntWalk.u64_in, IntWalk.u8_in, h2, h3, h4]
      refine ⟨rfl, by show nx ≤ nx + 1; omega, ⟨vS, _, ⟨by show t < nx + 1; omega, upd_same _ _ _, hs.keep (fun _ _ => by simp [upd_app]) (by show nx ≤ nx + 1; omega), .inr ⟨nx, (nx, 16), by simp [BS.free, e2], by show _ < nx + 1; omega, ?_, ?_⟩⟩⟩, ?_⟩
      · simp [upd_app, BS.free, cP, List.length_eq_zero_iff.1 e2]
      · simp [BS.free, cP_length]
      · intro i j hi a1 a2 a3
        have : i ≠ nx := by have : i < nx := hi; omega
        simp (disch := omega) [upd_app, this, a3, a2]
        intro hj
        have := a1 hj
        simp [this, hj]
    · simp (disch := omega) only [go_sem, ↓IntWalk.iteOmega, IntWalk.toNatUp, Nat.reduceEqDiff, Nat.reduceAdd, Nat.reduceMul, Nat.reduceSub, Nat.reduceLT, Nat.reduceLeDiff, Int.reduceToNat, Int.reduceLT, Int.reduceLE, Int.reduceEq, Int.reduceAdd, Int.reduceSub, Int.reduceMul, Int.toNat_natCast, reduceCtorEq, decide_true, decide_false, IntWalk.i64_in, IntWalk.u64_in, IntWalk.u8_in, h2, h3, h4, hrow]
      refine ⟨rfl, by show nx ≤ nx + 1; omega, ⟨vS, _, ⟨by show t < nx + 1; omega, upd_same _ _ _, hs.keep (fun _ _ => by simp [upd_app]) (by show nx ≤ nx + 1; omega), .inr ⟨i1, (nx, 16), by simp [BS.free], by show _ < nx + 1; omega, ?_, ?_⟩⟩⟩, ?_⟩
      · simp [upd_app, BS.free, cP]
      · simp [BS.free, cP_length]
      · intro i j hi a1 a2 a3
        have : i ≠ nx := by have : i < nx := hi; omega
        simp (disch := omega) [upd_app, this, a3, a2]
        intro hj
        have := a1 hj
        simp [this, hj])
  refine ⟨v, H', h1, fun t' b' x' y' e hb => ?_⟩
  simp only [List.cons.injEq, AV.ptr.injEq, Prod.mk.injEq, AV.int.injEq, and_true, true_and] at e
  obtain ⟨⟨rfl, _⟩, rfl, rfl⟩ := e
  rw [← hh.same hb]
  exact h2
theorem free_call {t : Nat} {o : Ob} {nx : Nat} {b : BS} {K : AV × AH → Prop} (h : BAt o nx t b) (x y : Int) (hn : b.f.length ≤ 100000000) (hK : ∀ o' nx', nx ≤ nx' → BAt o' nx' t (b.free x y) → BKeep t o nx o' → K (.tup [], ⟨o', nx'⟩)) :
    wO (Option.map (fun p => freezeR false p.1 p.2) (cRel RFree [bp t, .int .i64 x, .int .i64 y] ⟨o, nx⟩)) K := by
  refine cRel_call (bfree_ok h x y hn) fun v H' hr => ?_
  obtain ⟨rfl, h1, h2, h3⟩ := hr.2 t b x y rfl h
  exact hK H'.o H'.nx h1 h2 h3
end Go.Proofs.Ytfmijoglolecgaa.A
/- The builder: its bounds. -/
namespace Go.Proofs.Ytfmijoglolecgaa.A
open Go
set_option maxRecDepth 20000
structure Bd (h : Nat) (f : BF) (b : BS) : Prop where
  lo : b.n ≤ (f b).2.n
  hi : (f b).2.n ≤ max b.n 1000 + 2 * h
  f4 : (f b).2.f.length + 4 * b.n ≤ b.f.length + 4 * (f b).2.n
  s1 : (f b).2.s.length + b.n ≤ b.s.length + (f b).2.n
  str : b.n ≤ 1000 → (f b).2.f.length + 4 * b.n + 4 ≤ b.f.length + 4 * (f b).2.n
structure BdL (h : Nat) (k : Nat) (b : BS) (out : List (Int × Int)) (r : List (Int × Int) × BS) : Prop where
  lo : b.n ≤ r.2.n
  hi : r.2.n ≤ max b.n (1000 + 2 * h)
  f4 : r.2.f.length + 4 * b.n ≤ b.f.length + 4 * r.2.n
  s1 : r.2.s.length + b.n ≤ b.s.length + r.2.n
  str : r.1 = [] ∨ (r.1.length = out.length + k ∧ r.2.f.length + 4 * b.n + 4 * k ≤ b.f.length + 4 * r.2.n)
  str1 : b.n ≤ 1000 → 0 < k → r.2.f.length + 4 * b.n + 4 ≤ b.f.length + 4 * r.2.n
theorem parts_bd {h : Nat} : ∀ (fs : List BF) (b : BS) (out : List (Int × Int)), (∀ f ∈ fs, ∀ b, Bd h f b) → BdL h fs.length b out (bParts fs b out)
  | [], b, out, _ => ⟨Nat.le_refl _, by show b.n ≤ _; omega, Nat.le_refl _, Nat.le_refl _, .inr ⟨rfl, Nat.le_refl _⟩, fun _ h => absurd h (by simp)⟩
  | f :: fs, b, out, hf => by
    unfold bParts
    split
    · exact ⟨Nat.le_refl _, by show b.n ≤ _; omega, Nat.le_refl _, Nat.le_refl _, .inl rfl, fun h => absurd h (by omega)⟩
    · rename_i hn
      have h1 := hf f (List.mem_cons_self) b
      have h2 := parts_bd fs (f b).2 (out ++ [(f b).1]) (fun g hg => hf g (List.mem_cons_of_mem _ hg))
      have h3 := h1.str (by omega)
      refine ⟨Nat.le_trans h1.lo h2.lo, ?_, ?_, ?_, ?_, fun _ _ => by have := h2.f4; omega⟩
      · have := h2.hi; have := h1.hi; omega
      · have := h2.f4; have := h1.f4; omega
      · have := h2.s1; have := h1.s1; omega
      · rcases h2.str with e | ⟨e1, e2⟩
        · exact .inl e
        · refine .inr ⟨by rw [e1]; simp; omega, ?_⟩
          rw [List.length_cons]
          omega
theorem once_bd {h : Nat} {f : BF} (hf : ∀ b, Bd h f b) (x y : Bool) (b : BS) : Bd (h + 1) (bOnce f x y) b := by
  have h1 := hf b.state
  have e1 : (bOnce f x y b).2.n = (f b.state).2.n + 1 := rfl
  have e2 : (bOnce f x y b).2.f.length ≤ (f b.state).2.f.length + 4 := by
    show List.length (_ ++ _) ≤ _
    simp only [List.length_append, List.length_cons, List.length_nil]
    cases x <;> cases y <;> simp [BS.state]
  have e3 : (bOnce f x y b).2.s.length = (f b.state).2.s.length := rfl
  have e4 : b.state.n = b.n + 1 := rfl
  have e5 : b.state.f.length = b.f.length := rfl
  have e6 : b.state.s.length = b.s.length := rfl
  have := h1.lo; have := h1.hi; have := h1.f4; have := h1.s1
  exact ⟨by omega, by omega, by omega, by omega, fun _ => by omega⟩
theorem links_len : ∀ l : List (Int × Int), (links l).length = l.length - 1
  | [] => rfl
  | [_] => rfl
  | p :: q :: l => by rw [links, List.length_cons, links_len (q :: l)]; simp
theorem rLinks_len (lo e : Int) : ∀ (i : Nat) (l : List (Int × Int)), (rLinks lo e i l).length ≤ 2 * l.length
  | _, [] => by simp [rLinks]
  | _, [_] => by simp [rLinks]
  | i, p :: q :: l => by
    have := rLinks_len lo e (i + 1) (q :: l)
    rw [rLinks, List.length_append, List.length_cons]
    simp only [List.length_cons] at this ⊢
    split <;> simp <;> omega
theorem join_bd {h : Nat} {fs : List BF} (hf : ∀ f ∈ fs, ∀ b, Bd h f b) (h0 : 0 < fs.length) (h1 : 1 ≤ h) (b : BS) : Bd (h + 1) (bJoin fs) b := by
  have hp := parts_bd fs b [] hf
  have := hp.lo; have := hp.hi; have := hp.f4; have := hp.s1
  have key : (bJoin fs b).2.n = (bParts fs b []).2.n ∧ (bJoin fs b).2.s = (bParts fs b []).2.s ∧ ((bJoin fs b).2.f.length = (bParts fs b []).2.f.length ∧ ((bParts fs b []).1 = [] ∨ 1000 < (bParts fs b []).2.n) ∨ (bParts fs b []).1 ≠ [] ∧ (bJoin fs b).2.f.length = (bParts fs b []).2.f.length + ((bParts fs b []).1.length - 1)) := by
    unfold bJoin
    dsimp only
    split
    · rename_i h; exact ⟨rfl, rfl, .inl ⟨rfl, h.symm⟩⟩
    · rename_i h
      refine ⟨rfl, rfl, .inr ⟨fun e => h (.inr e), ?_⟩⟩
      show List.length (_ ++ _) = _
      rw [List.length_append, links_len]
  obtain ⟨k1, k2, k3⟩ := key
  have hs : (bJoin fs b).2.s.length = (bParts fs b []).2.s.length := by rw [k2]
  refine ⟨by omega, by omega, ?_, by omega, fun hb => ?_⟩
  · rcases k3 with ⟨e, _⟩ | ⟨e, e'⟩
    · omega
    · rcases hp.str with e1 | ⟨e1, e2⟩
      · exact absurd e1 e
      · simp only [List.length_nil] at e1
        omega
  · rcases k3 with ⟨e, _⟩ | ⟨e, e'⟩
    · have := hp.str1 hb h0
      omega
    · rcases hp.str with e1 | ⟨e1, e2⟩
      · exact absurd e1 e
      · simp only [List.length_nil] at e1
        omega
theorem union_len (n e : Int) (l : List (Int × Int)) : (l.flatMap fun p => [(n, p.1), (p.2, e)]).length = 2 * l.length := by
  induction l with
  | nil => rfl
  | cons p l ih => rw [List.flatMap_cons, List.length_append, ih]; simp; omega
theorem union_bd {h : Nat} {fs : List BF} (hf : ∀ f ∈ fs, ∀ b, Bd h f b) (b : BS) : Bd (h + 1) (bUnion fs) b := by
  have hp := parts_bd fs b.state [] hf
  have := hp.lo; have := hp.hi; have := hp.f4; have := hp.s1
  have e1 : (bUnion fs b).2.n = (bParts fs b.state []).2.n + 1 := rfl
  have e2 : (bUnion fs b).2.f.length = (bParts fs b.state []).2.f.length + 2 * (bParts fs b.state []).1.length := by
    show List.length (_ ++ _) = _
    rw [List.length_append, union_len]; rfl
  have e3 : (bUnion fs b).2.s.length = (bParts fs b.state []).2.s.length := rfl
  have e4 : b.state.n = b.n + 1 := rfl
  have e5 : b.state.f.length = b.f.length := rfl
  have e6 : b.state.s.length = b.s.length := rfl
  have hl : (bUnion fs b).2.f.length + 4 * (b.n + 1) ≤ b.f.length + 4 * (bParts fs b.state []).2.n := by
    rcases hp.str with e | ⟨e, e'⟩
    · rw [e] at e2; simp only [List.length_nil] at e2; omega
    · simp only [List.length_nil] at e; omega
  exact ⟨by omega, by omega, by omega, by omega, fun _ => by omega⟩
theorem repeat_bd {h : Nat} {f : BF} (hf : ∀ b, Bd h f b) (lo : Int) (hi : Nat) (b : BS) : Bd (h + 1) (bRepeat lo hi f) b := by
  have hp := parts_bd (List.replicate hi f) b.state [] (fun g hg => by rw [List.eq_of_mem_replicate hg]; exact hf)
  have := hp.lo; have := hp.hi; have := hp.f4; have := hp.s1
  have e4 : b.state.n = b.n + 1 := rfl
  have e5 : b.state.f.length = b.f.length := rfl
  have e6 : b.state.s.length = b.s.length := rfl
  have key : (bRepeat lo hi f b).2.n = (bParts (List.replicate hi f) b.state []).2.n + 1 ∧ (bRepeat lo hi f b).2.s = (bParts (List.replicate hi f) b.state []).2.s ∧ ((bRepeat lo hi f b).2.f = (bParts (List.replicate hi f) b.state []).2.f ∨ (bRepeat lo hi f b).2.f.length ≤ (bParts (List.replicate hi f) b.state []).2.f.length + 2 + 2 * (bParts (List.replicate hi f) b.state []).1.length) := by
    unfold bRepeat
    dsimp only
    split
    · exact ⟨rfl, rfl, .inl rfl⟩
    · refine ⟨rfl, rfl, .inr ?_⟩
      show List.length (_ ++ _) ≤ _
      have := rLinks_len lo (bParts (List.replicate hi f) b.state []).2.n 0 (bParts (List.replicate hi f) b.state []).1
      simp only [List.length_append]
      have h1 : (headL b.n (bParts (List.replicate hi f) b.state []).1).length ≤ 1 := by unfold headL; split <;> simp
      have h2 : (if lo = 0 then [((b.n : Int), ((bParts (List.replicate hi f) b.state []).2.n : Int))] else []).length ≤ 1 := by split <;> simp
      have h3 : (bParts (List.replicate hi f) b.state []).2.state.f = (bParts (List.replicate hi f) b.state []).2.f := rfl
      rw [h3]
      omega
  obtain ⟨k1, k2, k3⟩ := key
  have hs : (bRepeat lo hi f b).2.s.length = (bParts (List.replicate hi f) b.state []).2.s.length := by rw [k2]
  have hl : (bRepeat lo hi f b).2.f.length + 4 * (b.n + 1) ≤ b.f.length + 4 * (bParts (List.replicate hi f) b.state []).2.n + 2 := by
    rcases k3 with e | e
    · rw [e]; omega
    · rcases hp.str with e1 | ⟨e1, e'⟩
      · rw [e1] at e; simp only [List.length_nil] at e; omega
      · simp only [List.length_nil] at e1; omega
  exact ⟨by omega, by omega, by omega, by omega, fun _ => by omega⟩
theorem leaf_bd (kind set : Int) (h : Nat) (b : BS) : Bd (h + 1) (bLeaf kind set) b := by
  unfold bLeaf
  have e1 : b.state.state.n = b.n + 2 := rfl
  have e2 : b.state.state.f = b.f := rfl
  have e3 : b.state.state.s = b.s := rfl
  have e4 : ∀ x y v, (b.state.state.step x y v).s.length = b.s.length + 1 := fun x y v => by show List.length (_ ++ _) = _; rw [List.length_append]; rfl
  have e5 : ∀ x y, (b.state.state.free x y).f.length = b.f.length + 1 := fun x y => by show List.length (_ ++ _) = _; rw [List.length_append]; rfl
  have e6 : ∀ x y v, (b.state.state.step x y v).n = b.n + 2 := fun x y v => rfl
  have e7 : ∀ x y v, (b.state.state.step x y v).f = b.f := fun x y v => rfl
  have e8 : ∀ x y, (b.state.state.free x y).n = b.n + 2 := fun x y => rfl
  have e9 : ∀ x y, (b.state.state.free x y).s = b.s := fun x y => rfl
  refine ⟨?_, ?_, ?_, ?_, fun _ => ?_⟩ <;> dsimp only <;> split <;> (try split) <;> simp only [e1, e2, e3, e4, e5, e6, e7, e8, e9] <;> omega
mutual
def hN : Nd → Nat
  | .mk _ _ _ _ l => hNs l + 1
def hNs : List Nd → Nat
  | [] => 0
  | x :: l => max (hN x) (hNs l)
end
mutual
/-- What may be built. -/
def okN : Nd → Bool
  | .mk kind _ lo hi l => okNs l && (if kind = 4 ∨ kind = 5 ∨ kind = 6 ∨ kind = 7 ∨ kind = 8 then decide (0 < l.length ∧ l.length ≤ 10) else if kind = 9 then decide (0 < l.length ∧ l.length ≤ 10 ∧ 0 ≤ lo ∧ lo ≤ hi ∧ hi ≤ 10) else true)
def okNs : List Nd → Bool
  | [] => true
  | x :: l => okN x && okNs l
end
theorem Bd.mono {h h' f b} (hb : Bd h f b) (hh : h ≤ h') : Bd h' f b := ⟨hb.lo, by have := hb.hi; omega, hb.f4, hb.s1, hb.str⟩
theorem hN_pos (x) : 1 ≤ hN x := by cases x; rw [hN]; omega
theorem bPartL_length (l) : (bPartL l).length = l.length := by
  induction l with
  | nil => rw [bPartL]; rfl
  | cons x l ih => rw [bPartL, List.length_cons, ih, List.length_cons]
mutual
theorem part_bd : ∀ (x : Nd), okN x = true → ∀ b, Bd (hN x) (bPart x) b
  | .mk kind set lo hi l, hk, b => by
    rw [okN, Bool.and_eq_true] at hk
    obtain ⟨hk1, hk2⟩ := hk
    have hl := parts_bd' l hk1
    rw [bPart, hN]
    have hd : 0 < l.length → ∀ b, Bd (hNs l) ((bPartL l).headD fun b => ((0, 0), b)) b := fun h b => by
      cases l with
      | nil => exact absurd h (by simp)
      | cons x l => exact hl _ (by rw [bPartL]; exact List.mem_cons_self) b
    have h1 : 0 < l.length → 1 ≤ hNs l := fun h => by
      cases l with
      | nil => exact absurd h (by simp)
      | cons x l => have := hN_pos x; rw [hNs]; omega
    unfold bNode
    by_cases k4 : kind = 4
    · rw [if_pos k4]
      rw [if_pos (.inl k4), decide_eq_true_eq] at hk2
      exact join_bd hl (by rw [bPartL_length]; exact hk2.1) (h1 hk2.1) b
    by_cases k5 : kind = 5
    · rw [if_neg k4, if_pos k5]
      exact union_bd hl b
    by_cases k6 : kind = 6
    · rw [if_neg k4, if_neg k5, if_pos k6]
      rw [if_pos (.inr (.inr (.inl k6))), decide_eq_true_eq] at hk2
      exact once_bd (hd hk2.1) _ _ b
    by_cases k7 : kind = 7
    · rw [if_neg k4, if_neg k5, if_neg k6, if_pos k7]
      rw [if_pos (.inr (.inr (.inr (.inl k7)))), decide_eq_true_eq] at hk2
      exact once_bd (hd hk2.1) _ _ b
    by_cases k8 : kind = 8
    · rw [if_neg k4, if_neg k5, if_neg k6, if_neg k7, if_pos k8]
      rw [if_pos (.inr (.inr (.inr (.inr k8)))), decide_eq_true_eq] at hk2
      exact once_bd (hd hk2.1) _ _ b
    by_cases k9 : kind = 9
    · rw [if_neg k4, if_neg k5, if_neg k6, if_neg k7, if_neg k8, if_pos k9]
      rw [if_neg (by omega), if_pos k9, decide_eq_true_eq] at hk2
      exact repeat_bd (hd hk2.1) _ _ b
    rw [if_neg k4, if_neg k5, if_neg k6, if_neg k7, if_neg k8, if_neg k9]
    exact leaf_bd _ _ _ b
theorem parts_bd' : ∀ (l : List Nd), okNs l = true → ∀ f ∈ bPartL l, ∀ b, Bd (hNs l) f b
  | [], _, f, hf, b => by rw [bPartL] at hf; cases hf
  | x :: l, hk, f, hf, b => by
    rw [okNs, Bool.and_eq_true] at hk
    rw [bPartL] at hf
    rw [hNs]
    rcases List.mem_cons.1 hf with rfl | hf
    · exact (part_bd x hk.1 b).mono (by omega)
    · exact (parts_bd' l hk.2 f hf b).mono (by omega)
end
end Go.Proofs.Ytfmijoglolecgaa.A
/- The builder: parts. -/
namespace Go.Proofs.Ytfmijoglolecgaa.A
open Go
set_option maxRecDepth 20000
abbrev bE (p : Int × Int) : AV := .agg [.int .i64 p.1, .int .i64 p.2]
def RPartB (args : List AV) (H : AH) (v : AV) (H' : AH) : Prop := OkR Try.prog 15 args H v H' ∧ ∀ t b x, args = [bp t, nodeV x] → BAt H.o H.nx t b → v = bE (bPart x b).1 ∧ BTo t (bPart x b).2 H H'
/-- A row of parts: as data, or in memory. -/
def NdsAt (o : Ob) (nx : Nat) (v : AV) (l : List Nd) : Prop := v = slN l ∨ HS 28 5 17 o nx v l.length (cNds l)
def RParts (args : List AV) (H : AH) (v : AV) (H' : AH) : Prop := OkR Try.prog 25 args H v H' ∧ ∀ t b l v0, args = [bp t, v0] → NdsAt H.o H.nx v0 l → BAt H.o H.nx t b → BTo t (bParts (bPartL l) b []).2 H H' ∧ HS 51 2 21 H'.o H'.nx v (bParts (bPartL l) b []).1.length (cP (bParts (bPartL l) b []).1)
structure Pre (h : Nat) (b : BS) : Prop where
  f : b.f.length ≤ 4 * b.n
  s : b.s.length ≤ b.n
  n : b.n + 2 * h ≤ 100000
theorem part_call {x : Nd} {t : Nat} {o : Ob} {nx : Nat} {b : BS} {K : AV × AH → Prop} (hex : ∃ v H', RPartB [bp t, nodeV x] ⟨o, nx⟩ v H') (h : BAt o nx t b) (hK : ∀ o' nx', nx ≤ nx' → BAt o' nx' t (bPart x b).2 → BKeep t o nx o' → K (bE (bPart x b).1, ⟨o', nx'⟩)) :
    wO (Option.map (fun p => freezeR false p.1 p.2) (cRel RPartB [bp t, nodeV x] ⟨o, nx⟩)) K := by
  refine cRel_call hex fun v H' hr => ?_
  obtain ⟨rfl, h1, h2, h3⟩ := hr.2 t b x rfl h
  exact hK H'.o H'.nx h1 h2 h3
theorem parts_call {l : List Nd} {v0 : AV} {t : Nat} {o : Ob} {nx : Nat} {b : BS} {K : AV × AH → Prop} (hex : ∃ v H', RParts [bp t, v0] ⟨o, nx⟩ v H') (hv : NdsAt o nx v0 l) (h : BAt o nx t b)
    (hK : ∀ v o' nx', nx ≤ nx' → BAt o' nx' t (bParts (bPartL l) b []).2 → BKeep t o nx o' → HS 51 2 21 o' nx' v (bParts (bPartL l) b []).1.length (cP (bParts (bPartL l) b []).1) → K (v, ⟨o', nx'⟩)) :
    wO (Option.map (fun p => freezeR false p.1 p.2) (cRel RParts [bp t, v0] ⟨o, nx⟩)) K := by
  refine cRel_call hex fun v H' hr => ?_
  obtain ⟨⟨h1, h2, h3⟩, h4⟩ := hr.2 t b l v0 rfl hv h
  exact hK v H'.o H'.nx h1 h2 h3 h4
theorem crParts_ok : CRSound Try.prog (tabLookR [(16, cRel RFull), (15, cRel RPartB)]) ∧ Up (tabLookR [(16, cRel RFull), (15, cRel RPartB)]) :=
  tabR_cons (tabR_cons (tabR_nil _) fun args H v H' h => (cRel_some h).1) fun args H v H' h => (cRel_some h).1
theorem lookParts (X) : lookedAt (EX md0 X) (fun _ => none) 2 Try.f25 = true := by kernel_rfl
theorem BAt.new {o nx t b} (h : BAt o nx t b) {o' : Ob} {nx' : Nat} (ho : ∀ i j, i < nx → o' (i, j) = o (i, j)) (hn : nx ≤ nx') : BAt o' nx' t b := by
  obtain ⟨vS, vF, h⟩ := h
  exact ⟨vS, vF, ⟨by have := h.lt; omega, by rw [ho _ _ h.lt]; exact h.row, h.s.keep (fun i hi => ho i _ hi) hn, h.f.keep (fun i hi => ho i _ hi) hn⟩⟩
theorem NdsAt.new {o nx v l} (h : NdsAt o nx v l) {o' : Ob} {nx' : Nat} (ho : ∀ i j, i < nx → o' (i, j) = o (i, j)) (hn : nx ≤ nx') : NdsAt o' nx' v l := by
  rcases h with h | h
  · exact .inl h
  · exact .inr (h.keep (fun i hi => ho i 17 hi) hn)
theorem BKeep.new {t o nx o'} (ho : ∀ i j, i < nx → o' (i, j) = o (i, j)) : BKeep t o nx o' := fun i j hi _ _ _ => ho i j hi
theorem NdsAt.keep {o nx v l} (h : NdsAt o nx v l) {t o' nx'} (hk : BKeep t o nx o') (hn : nx ≤ nx') : NdsAt o' nx' v l := by
  rcases h with h | h
  · exact .inl h
  · exact .inr (h.keep (fun i hi => hk i 17 hi (fun e => absurd e (by decide)) (by decide) (by decide)) hn)
theorem bPartL_drop {l : List Nd} {i : Nat} (h : i < l.length) : bPartL (l.drop i) = bPart (l.getD i default) :: bPartL (l.drop (i + 1)) := by
  rw [List.drop_eq_getElem_cons h, bPartL, List.getD_eq_getElem?_getD, List.getElem?_eq_getElem h]
  rfl
theorem okNs_get {l : List Nd} (hk : okNs l = true) {i : Nat} (h : i < l.length) : okN (l.getD i default) = true ∧ hN (l.getD i default) ≤ hNs l := by
  induction l generalizing i with
  | nil => simp at h
  | cons x l ih =>
    rw [okNs, Bool.and_eq_true] at hk
    rw [hNs]
    cases i with
    | zero => exact ⟨hk.1, by show hN x ≤ _; omega⟩
    | succ i =>
      have := ih hk.2 (by simpa using h)
      exact ⟨this.1, by have := this.2; show hN (l.getD i default) ≤ _; omega⟩
theorem nd_mem {l : List Nd} {i : Nat} (h : i < l.length) : l.getD i default ∈ l := by
  rw [List.getD_eq_getElem?_getD, List.getElem?_eq_getElem h]
  exact List.getElem_mem h
theorem BAt.slot {o nx t b} (h : BAt o nx t b) {o' : Ob} {nx' : Nat} (ho : ∀ i j, (j = 8 ∨ j = 139 ∨ j = 16) → o' (i, j) = o (i, j)) (hn : nx ≤ nx') : BAt o' nx' t b := by
  obtain ⟨vS, vF, h⟩ := h
  exact ⟨vS, vF, ⟨by have := h.lt; omega, by rw [ho _ _ (.inl rfl)]; exact h.row, h.s.keep (fun i hi => ho i _ (.inr (.inl rfl))) hn, h.f.keep (fun i hi => ho i _ (.inr (.inr rfl))) hn⟩⟩
theorem bParts_cons (f : BF) (fs b out) : bParts (f :: fs) b out = if b.n > 1000 then ([], b) else bParts fs (f b).2 (out ++ [(f b).1]) := by rw [bParts]
theorem parts_loop {l : List Nd} (hk : okNs l = true) (hlen : l.length ≤ 20) (hpart : ∀ x ∈ l, ∀ t o nx b, BAt o nx t b → Pre (hN x) b → ∃ v H', RPartB [bp t, nodeV x] ⟨o, nx⟩ v H') {cr : CallR} (hF : cr 16 = cRel RFull) (hP : cr 15 = cRel RPartB)
    {t : Nat} {o0 : Ob} {nx0 : Nat} {b0 : BS} {v0 : AV} {a : AAct} {o : Ob} {nx : Nat} {Q : WPost} (hv : NdsAt o nx v0 l) (h : BAt o nx t b0) (hp : Pre (hNs l) b0) (hh : hNs l ≤ 1000) (ha0 : a 0 = bp t) (ha5 : a 5 = .nil) (ha8 : a 8 = v0) (ha9 : a 9 = .int .i64 l.length) (ha10 : a 10 = .int .i64 0)
    (hkp : BKeep t o0 nx0 o) (hnx : nx0 ≤ nx) (hQ : ∀ a o nx, nx0 ≤ nx → BAt o nx t (bParts (bPartL l) b0 []).2 → BKeep t o0 nx0 o → HS 51 2 21 o nx (a 4) (bParts (bPartL l) b0 []).1.length (cP (bParts (bPartL l) b0 []).1) → Q .ret a o nx) :
    WP (EX md0 (fun _ _ => none)) cr 30 (fun _ => none) (pathC [1, 1, 0, 1, 0] (Try.f25.body.getD .skip)) a o nx (blockQ 0 (thenQ (EX md0 (fun _ _ => none)) cr 30 (fun _ => none) (pathC [1, 1, 1] (Try.f25.body.getD .skip)) Q)) := by
  simp only [Try.f25, Option.getD_some, pathC]
  refine WP_loop (fun m a o nx => ∃ i b out v, i ≤ l.length ∧ m = l.length - i ∧ bParts (bPartL l) b0 [] = bParts (bPartL (l.drop i)) b out ∧ out.length = i ∧ NdsAt o nx v0 l ∧ BAt o nx t b ∧ HS 51 2 21 o nx v i (cP out) ∧ nx0 ≤ nx ∧ BKeep t o0 nx0 o ∧
    b.f.length ≤ 4 * b.n ∧ b.s.length ≤ b.n ∧ b.n ≤ max b0.n (1000 + 2 * hNs l) ∧ (∀ i g n, v = .ref (i, 21) g 0 n → nx0 ≤ i) ∧ a 0 = bp t ∧ a 5 = v ∧ a 8 = v0 ∧ a 9 = .int .i64 l.length ∧ a 10 = .int .i64 i) l.length (by omega) ⟨0, b0, [], .nil, by omega, by omega, rfl, rfl, hv, h, HS.nil, hnx, hkp, hp.f, hp.s, by omega, (fun i g n h => by cases h), ha0, ha5, ha8, ha9, ha10⟩ ?_
  clear hv h ha0 ha5 ha8 ha9 ha10 hkp hnx
  rintro m a o nx ⟨i, b, out, v, hi, rfl, hbp, hout, hv, hB, hHS, hnx, hkp, hf4, hs1, hn, hfr, h0, h5, h8, h9, h10⟩
  have hok := hHS.ok
  by_cases hlt : i < l.length
  · have hx := okNs_get hk hlt
    have hmem := nd_mem hlt
    have hat := cNds_at hlt
    have hdrop := bPartL_drop hlt
    obtain ⟨x, hxe⟩ : ∃ x, x = l.getD i default := ⟨_, rfl⟩
    rw [← hxe] at hx hat hmem hdrop
    have hnew : ∀ y z, ∀ i j, i < nx → upd (upd o (nx + 1, 7) y) (nx + 1, 7) z (i, j) = o (i, j) := fun y z i j hi => by simp (disch := omega) only [upd_fst]
    rw [hdrop, bParts_cons] at hbp
    have hP1 : b.n ≤ 1000 → Pre (hN x) b := fun h => ⟨hf4, hs1, by have := hx.2; omega⟩
    have hbd := part_bd x hx.1 b
    have hv' := hv
    rcases hv with rfl | ⟨rfl, e1, e2⟩ | ⟨i2, g2, rfl, hi2, hrow2, hlen2⟩
    · simp (disch := omega) only [go_sem, ↓IntWalk.iteOmega, IntWalk.toNatUp, Nat.reduceEqDiff, Nat.reduceAdd, Nat.reduceMul, Nat.reduceSub, Nat.reduceLT, Nat.reduceLeDiff, Int.reduceToNat, Int.reduceLT, Int.reduceLE, Int.reduceEq, Int.reduceAdd, Int.reduceSub, Int.reduceMul, Int.toNat_natCast, reduceCtorEq, decide_true, decide_false, IntWalk.i64_in, IntWalk.u64_in, IntWalk.u8_in, h0, h5, h8, h9, h10, hat, hF]
      refine full_call (hB.new (hnew _ _) (by omega)) ?_
      intro o1 nx1 hle1 hB1 hk1
      have hx7 : o1 (nx + 1, 7) = some (.row ⟨28, 1, (nx + 1, 7), false, true, cNd x⟩) := by rw [hk1 _ _ (by omega) (fun e => absurd e (by decide)) (by decide) (by decide)]; exact upd_same _ _ _
      have hkq := (BKeep.new (t := t) (hnew (.row ⟨28, 1, (nx + 1, 7), false, true, [.int .i64 0, .int .i64 0, .int .i64 0, .int .i64 0, .nil]⟩) (.row ⟨28, 1, (nx + 1, 7), false, true, cNd x⟩))).trans hk1 (by omega)
      have hk01 : BKeep t o0 nx0 o1 := hkp.trans ((BKeep.new (hnew _ _)).trans hk1 (by omega)) hnx
      by_cases hfull : (1000 : Int) < b.n
      · rw [if_pos (by omega)] at hbp
        simp (disch := omega) only [go_sem, ↓IntWalk.iteOmega, IntWalk.toNatUp, Nat.reduceEqDiff, Nat.reduceAdd, Nat.reduceMul, Nat.reduceSub, Nat.reduceLT, Nat.reduceLeDiff, Int.reduceToNat, Int.reduceLT, Int.reduceLE, Int.reduceEq, Int.reduceAdd, Int.reduceSub, Int.reduceMul, Int.toNat_natCast, reduceCtorEq, decide_true, decide_false, IntWalk.i64_in, IntWalk.u64_in, IntWalk.u8_in, hfull, h0, h5, h8, h9, h10, hx7]
        refine hQ _ _ _ (by omega) ?_ hk01 ?_
        · rw [hbp]; exact hB1.new (fun _ _ _ => rfl) (by omega)
        · rw [hbp]; exact HS.nil
      · rw [if_neg (by omega)] at hbp
        have hHS1 := hHS.keep (o' := o1) (nx' := nx1) (fun i hi => by rw [hk1 _ _ (by omega) (fun e => absurd e (by decide)) (by decide) (by decide), hnew _ _ _ _ hi]) (by omega)
        simp (disch := omega) only [go_sem, ↓IntWalk.iteOmega, IntWalk.toNatUp, Nat.reduceEqDiff, Nat.reduceAdd, Nat.reduceMul, Nat.reduceSub, Nat.reduceLT, Nat.reduceLeDiff, Int.reduceToNat, Int.reduceLT, Int.reduceLE, Int.reduceEq, Int.reduceAdd, Int.reduceSub, Int.reduceMul, Int.toNat_natCast, reduceCtorEq, decide_true, decide_false, IntWalk.i64_in, IntWalk.u64_in, IntWalk.u8_in, hfull, h0, h5, h8, h9, h10, hx7, hP]
        refine part_call (hpart x hmem t _ _ b (hB1.new (fun _ _ _ => rfl) (by omega)) (hP1 (by omega))) (hB1.new (fun _ _ _ => rfl) (by omega)) ?_
        intro o2 nx2 hle2 hB2 hk2
        have hHS2 := (hHS1.keep (o' := o1) (nx' := nx1 + 1) (fun _ _ => rfl) (by omega)).keep (o' := o2) (nx' := nx2) (fun i hi => by rw [hk2 _ _ (by omega) (fun e => absurd e (by decide)) (by decide) (by decide)]) (by omega)
        have hk02 : BKeep t o0 nx0 o2 := hk01.trans (fun i j (hi : i < nx1) => hk2 i j (by omega)) (by omega)
        have hv2 := (hv'.keep (hkq) (by omega : nx ≤ nx1)).new (o' := o1) (nx' := nx1 + 1) (fun _ _ _ => rfl) (by omega)
        have fin : ∀ (j : Nat) y z, nx0 ≤ j → NdsAt (upd (upd o2 (nx1, 20) y) (j, 21) z) (nx2 + 1) (slN l) l ∧ BAt (upd (upd o2 (nx1, 20) y) (j, 21) z) (nx2 + 1) t (bPart x b).2 ∧ BKeep t o0 nx0 (upd (upd o2 (nx1, 20) y) (j, 21) z) := by
          intro j y z hj
          have hslot : ∀ i' j', j' ≠ 20 → j' ≠ 21 → upd (upd o2 (nx1, 20) y) (j, 21) z (i', j') = o2 (i', j') := fun i' j' h1 h2 => by simp [upd_app, h1, h2]
          refine ⟨?_, hB2.slot (fun i' j' h => hslot i' j' (by omega) (by omega)) (by omega), fun i' j' hi' h1 h2 h3 => ?_⟩
          · rcases hv2.keep hk2 hle2 with h | h
            · exact .inl h
            · exact .inr (h.keep (fun i' _ => hslot i' 17 (by omega) (by omega)) (by omega))
          · rw [← hk02 i' j' hi' h1 h2 h3]
            have e1 : i' ≠ nx1 := by omega
            have e2 : i' ≠ j := by omega
            simp [upd_app, e1, e2]
        have hnN : (bPart x b).2.n ≤ max b0.n (1000 + 2 * hNs l) := by have := hbd.hi; have := hx.2; omega
        have hF4 : (bPart x b).2.f.length ≤ 4 * (bPart x b).2.n := by have := hbd.f4; omega
        have hS1 : (bPart x b).2.s.length ≤ (bPart x b).2.n := by have := hbd.s1; omega
        rcases hHS2 with ⟨rfl, e1, e2⟩ | ⟨i1, g1, rfl, hi1, hrow, hlen⟩
        · simp (disch := omega) only [go_sem, ↓IntWalk.iteOmega, IntWalk.toNatUp, Nat.reduceEqDiff, Nat.reduceAdd, Nat.reduceMul, Nat.reduceSub, Nat.reduceLT, Nat.reduceLeDiff, Int.reduceToNat, Int.reduceLT, Int.reduceLE, Int.reduceEq, Int.reduceAdd, Int.reduceSub, Int.reduceMul, Int.toNat_natCast, reduceCtorEq, decide_true, decide_false, IntWalk.i64_in, IntWalk.u64_in, IntWalk.u8_in, hfull, h0, h5, h8, h9, h10, hx7, hP]
          obtain ⟨f1, f2, f3⟩ := fin nx1 (.row ⟨51, 2, (nx1, 20), false, true, [.int .i64 (bPart x b).1.1, .int .i64 (bPart x b).1.2]⟩) (.row ⟨51, 2, (nx1, 21), false, true, [.int .i64 (bPart x b).1.1, .int .i64 (bPart x b).1.2]⟩) (by omega)
          have hout0 : out = [] := List.length_eq_zero_iff.1 (by omega)
          refine ⟨_, ?_, i + 1, (bPart x b).2, out ++ [(bPart x b).1], _, by omega, rfl, hbp, by simp [hout], f1, f2, ?_, by omega, f3, hF4, hS1, hnN, ?_, rfl, rfl⟩
          · omega
          · refine .inr ⟨nx1, (nx1, 21), by rw [e1], by omega, ?_, ?_⟩
            · rw [upd_same, hout0]; rfl
            · rw [cP_length, List.length_append, hout]; rfl
          · intro i' g' n' h
            injection h with h
            injection h with h
            omega
        · have hi0 := hfr _ _ _ rfl
          have htk : (cP out).take (i * 2) = cP out := take_len hlen
          simp (disch := omega) only [go_sem, ↓IntWalk.iteOmega, IntWalk.toNatUp, Nat.reduceEqDiff, Nat.reduceAdd, Nat.reduceMul, Nat.reduceSub, Nat.reduceLT, Nat.reduceLeDiff, Int.reduceToNat, Int.reduceLT, Int.reduceLE, Int.reduceEq, Int.reduceAdd, Int.reduceSub, Int.reduceMul, Int.toNat_natCast, reduceCtorEq, decide_true, decide_false, IntWalk.i64_in, IntWalk.u64_in, IntWalk.u8_in, hfull, h0, h5, h8, h9, h10, hx7, hP, hrow, htk]
          obtain ⟨f1, f2, f3⟩ := fin i1 (.row ⟨51, 2, (nx1, 20), false, true, [.int .i64 (bPart x b).1.1, .int .i64 (bPart x b).1.2]⟩) (.row ⟨51, 2, (nx1, 21), false, true, cP out ++ [.int .i64 (bPart x b).1.1, .int .i64 (bPart x b).1.2]⟩) hi0
          refine ⟨_, ?_, i + 1, (bPart x b).2, out ++ [(bPart x b).1], _, by omega, rfl, hbp, by simp [hout], f1, f2, ?_, by omega, f3, hF4, hS1, hnN, ?_, rfl, rfl⟩
          · omega
          · refine .inr ⟨i1, (nx1, 21), rfl, by omega, ?_, ?_⟩
            · rw [upd_same, cP_app]; rfl
            · rw [cP_length, List.length_append, hout]; rfl
          · intro i' g' n' h
            injection h with h
            injection h with h
            omega
    · omega
    · simp (disch := omega) only [go_sem, ↓IntWalk.iteOmega, IntWalk.toNatUp, Nat.reduceEqDiff, Nat.reduceAdd, Nat.reduceMul, Nat.reduceSub, Nat.reduceLT, Nat.reduceLeDiff, Int.reduceToNat, Int.reduceLT, Int.reduceLE, Int.reduceEq, Int.reduceAdd, Int.reduceSub, Int.reduceMul, Int.toNat_natCast, reduceCtorEq, decide_true, decide_false, IntWalk.i64_in, IntWalk.u64_in, IntWalk.u8_in, h0, h5, h8, h9, h10, hat, hF, hrow2]
      refine full_call (hB.new (hnew _ _) (by omega)) ?_
      intro o1 nx1 hle1 hB1 hk1
      have hx7 : o1 (nx + 1, 7) = some (.row ⟨28, 1, (nx + 1, 7), false, true, cNd x⟩) := by rw [hk1 _ _ (by omega) (fun e => absurd e (by decide)) (by decide) (by decide)]; exact upd_same _ _ _
      have hkq := (BKeep.new (t := t) (hnew (.row ⟨28, 1, (nx + 1, 7), false, true, [.int .i64 0, .int .i64 0, .int .i64 0, .int .i64 0, .nil]⟩) (.row ⟨28, 1, (nx + 1, 7), false, true, cNd x⟩))).trans hk1 (by omega)
      have hk01 : BKeep t o0 nx0 o1 := hkp.trans ((BKeep.new (hnew _ _)).trans hk1 (by omega)) hnx
      by_cases hfull : (1000 : Int) < b.n
      · rw [if_pos (by omega)] at hbp
        simp (disch := omega) only [go_sem, ↓IntWalk.iteOmega, IntWalk.toNatUp, Nat.reduceEqDiff, Nat.reduceAdd, Nat.reduceMul, Nat.reduceSub, Nat.reduceLT, Nat.reduceLeDiff, Int.reduceToNat, Int.reduceLT, Int.reduceLE, Int.reduceEq, Int.reduceAdd, Int.reduceSub, Int.reduceMul, Int.toNat_natCast, reduceCtorEq, decide_true, decide_false, IntWalk.i64_in, IntWalk.u64_in, IntWalk.u8_in, hfull, h0, h5, h8, h9, h10, hx7]
        refine hQ _ _ _ (by omega) ?_ hk01 ?_
        · rw [hbp]; exact hB1.new (fun _ _ _ => rfl) (by omega)
        · rw [hbp]; exact HS.nil
      · rw [if_neg (by omega)] at hbp
        have hHS1 := hHS.keep (o' := o1) (nx' := nx1) (fun i hi => by rw [hk1 _ _ (by omega) (fun e => absurd e (by decide)) (by decide) (by decide), hnew _ _ _ _ hi]) (by omega)
        simp (disch := omega) only [go_sem, ↓IntWalk.iteOmega, IntWalk.toNatUp, Nat.reduceEqDiff, Nat.reduceAdd, Nat.reduceMul, Nat.reduceSub, Nat.reduceLT, Nat.reduceLeDiff, Int.reduceToNat, Int.reduceLT, Int.reduceLE, Int.reduceEq, Int.reduceAdd, Int.reduceSub, Int.reduceMul, Int.toNat_natCast, reduceCtorEq, decide_true, decide_false, IntWalk.i64_in, IntWalk.u64_in, IntWalk.u8_in, hfull, h0, h5, h8, h9, h10, hx7, hP]
        refine part_call (hpart x hmem t _ _ b (hB1.new (fun _ _ _ => rfl) (by omega)) (hP1 (by omega))) (hB1.new (fun _ _ _ => rfl) (by omega)) ?_
        intro o2 nx2 hle2 hB2 hk2
        have hHS2 := (hHS1.keep (o' := o1) (nx' := nx1 + 1) (fun _ _ => rfl) (by omega)).keep (o' := o2) (nx' := nx2) (fun i hi => by rw [hk2 _ _ (by omega) (fun e => absurd e (by decide)) (by decide) (by decide)]) (by omega)
        have hk02 : BKeep t o0 nx0 o2 := hk01.trans (fun i j (hi : i < nx1) => hk2 i j (by omega)) (by omega)
        have hv2 := (hv'.keep (hkq) (by omega : nx ≤ nx1)).new (o' := o1) (nx' := nx1 + 1) (fun _ _ _ => rfl) (by omega)
        have fin : ∀ (j : Nat) y z, nx0 ≤ j → NdsAt (upd (upd o2 (nx1, 20) y) (j, 21) z) (nx2 + 1) (.ref (i2, 17) g2 0 l.length) l ∧ BAt (upd (upd o2 (nx1, 20) y) (j, 21) z) (nx2 + 1) t (bPart x b).2 ∧ BKeep t o0 nx0 (upd (upd o2 (nx1, 20) y) (j, 21) z) := by
          intro j y z hj
          have hslot : ∀ i' j', j' ≠ 20 → j' ≠ 21 → upd (upd o2 (nx1, 20) y) (j, 21) z (i', j') = o2 (i', j') := fun i' j' h1 h2 => by simp [upd_app, h1, h2]
          refine ⟨?_, hB2.slot (fun i' j' h => hslot i' j' (by omega) (by omega)) (by omega), fun i' j' hi' h1 h2 h3 => ?_⟩
          · rcases hv2.keep hk2 hle2 with h | h
            · exact .inl h
            · exact .inr (h.keep (fun i' _ => hslot i' 17 (by omega) (by omega)) (by omega))
          · rw [← hk02 i' j' hi' h1 h2 h3]
            have e1 : i' ≠ nx1 := by omega
            have e2 : i' ≠ j := by omega
            simp [upd_app, e1, e2]
        have hnN : (bPart x b).2.n ≤ max b0.n (1000 + 2 * hNs l) := by have := hbd.hi; have := hx.2; omega
        have hF4 : (bPart x b).2.f.length ≤ 4 * (bPart x b).2.n := by have := hbd.f4; omega
        have hS1 : (bPart x b).2.s.length ≤ (bPart x b).2.n := by have := hbd.s1; omega
        rcases hHS2 with ⟨rfl, e1, e2⟩ | ⟨i1, g1, rfl, hi1, hrow, hlen⟩
        · simp (disch := omega) only [go_sem, ↓IntWalk.iteOmega, IntWalk.toNatUp, Nat.reduceEqDiff, Nat.reduceAdd, Nat.reduceMul, Nat.reduceSub, Nat.reduceLT, Nat.reduceLeDiff, Int.reduceToNat, Int.reduceLT, Int.reduceLE, Int.reduceEq, Int.reduceAdd, Int.reduceSub, Int.reduceMul, Int.toNat_natCast, reduceCtorEq, decide_true, decide_false, IntWalk.i64_in, IntWalk.u64_in, IntWalk.u8_in, hfull, h0, h5, h8, h9, h10, hx7, hP]
          obtain ⟨f1, f2, f3⟩ := fin nx1 (.row ⟨51, 2, (nx1, 20), false, true, [.int .i64 (bPart x b).1.1, .int .i64 (bPart x b).1.2]⟩) (.row ⟨51, 2, (nx1, 21), false, true, [.int .i64 (bPart x b).1.1, .int .i64 (bPart x b).1.2]⟩) (by omega)
          have hout0 : out = [] := List.length_eq_zero_iff.1 (by omega)
          refine ⟨_, ?_, i + 1, (bPart x b).2, out ++ [(bPart x b).1], _, by omega, rfl, hbp, by simp [hout], f1, f2, ?_, by omega, f3, hF4, hS1, hnN, ?_, rfl, rfl⟩
          · omega
          · refine .inr ⟨nx1, (nx1, 21), by rw [e1], by omega, ?_, ?_⟩
            · rw [upd_same, hout0]; rfl
            · rw [cP_length, List.length_append, hout]; rfl
          · intro i' g' n' h
            injection h with h
            injection h with h
            omega
        · have hi0 := hfr _ _ _ rfl
          have htk : (cP out).take (i * 2) = cP out := take_len hlen
          simp (disch := omega) only [go_sem, ↓IntWalk.iteOmega, IntWalk.toNatUp, Nat.reduceEqDiff, Nat.reduceAdd, Nat.reduceMul, Nat.reduceSub, Nat.reduceLT, Nat.reduceLeDiff, Int.reduceToNat, Int.reduceLT, Int.reduceLE, Int.reduceEq, Int.reduceAdd, Int.reduceSub, Int.reduceMul, Int.toNat_natCast, reduceCtorEq, decide_true, decide_false, IntWalk.i64_in, IntWalk.u64_in, IntWalk.u8_in, hfull, h0, h5, h8, h9, h10, hx7, hP, hrow, htk]
          obtain ⟨f1, f2, f3⟩ := fin i1 (.row ⟨51, 2, (nx1, 20), false, true, [.int .i64 (bPart x b).1.1, .int .i64 (bPart x b).1.2]⟩) (.row ⟨51, 2, (nx1, 21), false, true, cP out ++ [.int .i64 (bPart x b).1.1, .int .i64 (bPart x b).1.2]⟩) hi0
          refine ⟨_, ?_, i + 1, (bPart x b).2, out ++ [(bPart x b).1], _, by omega, rfl, hbp, by simp [hout], f1, f2, ?_, by omega, f3, hF4, hS1, hnN, ?_, rfl, rfl⟩
          · omega
          · refine .inr ⟨i1, (nx1, 21), rfl, by omega, ?_, ?_⟩
            · rw [upd_same, cP_app]; rfl
            · rw [cP_length, List.length_append, hout]; rfl
          · intro i' g' n' h
            injection h with h
            injection h with h
            omega
  · have he : l.drop i = [] := List.drop_of_length_le (by omega)
    rw [he, bPartL, bParts] at hbp
    simp (disch := omega) only [go_sem, ↓IntWalk.iteOmega, IntWalk.toNatUp, Nat.reduceEqDiff, Nat.reduceAdd, Nat.reduceMul, Nat.reduceSub, Nat.reduceLT, Nat.reduceLeDiff, Int.reduceToNat, Int.reduceLT, Int.reduceLE, Int.reduceEq, Int.reduceAdd, Int.reduceSub, Int.reduceMul, Int.toNat_natCast, reduceCtorEq, decide_true, decide_false, IntWalk.i64_in, IntWalk.u64_in, IntWalk.u8_in, h0, h5, h8, h9, h10]
    refine hQ _ _ _ (by omega) ?_ (hkp) ?_
    · rw [hbp]; exact hB.new (fun _ _ _ => rfl) (by omega)
    · rw [hbp]
      show HS _ _ _ _ _ _ out.length (cP out)
      rw [hout]
      simp (disch := omega) only [go_sem, ↓IntWalk.iteOmega, IntWalk.toNatUp, Nat.reduceEqDiff, Nat.reduceAdd, Nat.reduceMul, Nat.reduceSub, Nat.reduceLT, Nat.reduceLeDiff, Int.reduceToNat, Int.reduceLT, Int.reduceLE, Int.reduceEq, Int.reduceAdd, Int.reduceSub, Int.reduceMul, Int.toNat_natCast, reduceCtorEq, decide_true, decide_false, IntWalk.i64_in, IntWalk.u64_in, IntWalk.u8_in]
      exact hHS.keep (fun _ _ => rfl) (by omega)
theorem NdsAt.same {o nx v l l'} (h : NdsAt o nx v l) (h' : NdsAt o nx v l') : l = l' := by
  rcases h with rfl | h
  · rcases h' with h' | ⟨h', _⟩ | ⟨_, _, h', _⟩
    · injection h' with _ h'
      exact cNds_inj h'
    · cases h'
    · cases h'
  · rcases h' with rfl | h'
    · rcases h with ⟨h, _⟩ | ⟨_, _, h, _⟩ <;> cases h
    · exact cNds_inj (h.same h')
theorem parts_ok {l : List Nd} (hk : okNs l = true) (hlen : l.length ≤ 20) (hpart : ∀ x ∈ l, ∀ t o nx b, BAt o nx t b → Pre (hN x) b → ∃ v H', RPartB [bp t, nodeV x] ⟨o, nx⟩ v H') {t : Nat} {o : Ob} {nx : Nat} {b : BS} {v0 : AV} (hv : NdsAt o nx v0 l) (h : BAt o nx t b) (hp : Pre (hNs l) b) (hh : hNs l ≤ 1000) :
    ∃ v H', RParts [bp t, v0] ⟨o, nx⟩ v H' := by
  obtain ⟨cr, hcr⟩ : ∃ cr, cr = tabLookR [(16, cRel RFull), (15, cRel RPartB)] := ⟨_, rfl⟩
  have hF : cr 16 = cRel RFull := by rw [hcr]; rfl
  have hP : cr 15 = cRel RPartB := by rw [hcr]; rfl
  obtain ⟨v, H', h1, h2⟩ := okR_of_WP (E := EX md0 (fun _ _ => none)) (cr := cr) (cp_none _) (hcr ▸ crParts_ok) mixed (k := 30) (args := [bp t, v0]) (o := o) (nx := nx) (Post := fun v o' nx' => BTo t (bParts (bPartL l) b []).2 ⟨o, nx⟩ ⟨o', nx'⟩ ∧ HS 51 2 21 o' nx' v (bParts (bPartL l) b []).1.length (cP (bParts (bPartL l) b []).1)) Try.func25 (lookParts _) rfl (by
    clear hcr
    simp only [Try.f25, Option.getD_some]
    have hv' := hv
    rcases hv with rfl | ⟨rfl, e1, e2⟩ | ⟨i2, g2, rfl, hi2, hrow2, hlen2⟩
    all_goals
      simp (disch := omega) only [go_sem, ↓IntWalk.iteOmega, IntWalk.toNatUp, Nat.reduceEqDiff, Nat.reduceAdd, Nat.reduceMul, Nat.reduceSub, Nat.reduceLT, Nat.reduceLeDiff, Int.reduceToNat, Int.reduceLT, Int.reduceLE, Int.reduceEq, Int.reduceAdd, Int.reduceSub, Int.reduceMul, Int.toNat_natCast, reduceCtorEq, decide_true, decide_false, IntWalk.i64_in, IntWalk.u64_in, IntWalk.u8_in]
      refine parts_loop hk hlen hpart hF hP (hv'.new (fun _ _ _ => rfl) (by omega)) (h.new (fun _ _ _ => rfl) (by omega)) hp hh (by simp (disch := omega) only [go_sem, ↓IntWalk.iteOmega, IntWalk.toNatUp, Nat.reduceEqDiff, Nat.reduceAdd, Nat.reduceMul, Nat.reduceSub, Nat.reduceLT, Nat.reduceLeDiff, Int.reduceToNat, Int.reduceLT, Int.reduceLE, Int.reduceEq, Int.reduceAdd, Int.reduceSub, Int.reduceMul, Int.toNat_natCast, reduceCtorEq, decide_true, decide_false, IntWalk.i64_in, IntWalk.u64_in, IntWalk.u8_in]) (by simp (disch := omega) only [go_sem, ↓IntWalk.iteOmega, IntWalk.toNatUp, Nat.reduceEqDiff, Nat.reduceAdd, Nat.reduceMul, Nat.reduceSub, Nat.reduceLT, Nat.reduceLeDiff, Int.reduceToNat, Int.reduceLT, Int.reduceLE, Int.reduceEq, Int.reduceAdd, Int.reduceSub, Int.reduceMul, Int.toNat_natCast, reduceCtorEq, decide_true, decide_false, IntWalk.i64_in, IntWalk.u64_in, IntWalk.u8_in]) (by simp (disch := omega) only [go_sem, ↓IntWalk.iteOmega, IntWalk.toNatUp, Nat.reduceEqDiff, Nat.reduceAdd, Nat.reduceMul, Nat.reduceSub, Nat.reduceLT, Nat.reduceLeDiff, Int.reduceToNat, Int.reduceLT, Int.reduceLE, Int.reduceEq, Int.reduceAdd, Int.reduceSub, Int.reduceMul, Int.toNat_natCast, reduceCtorEq, decide_true, decide_false, IntWalk.i64_in, IntWalk.u64_in, IntWalk.u8_in]) ?_ (by simp (disch := omega) only [go_sem, ↓IntWalk.iteOmega, IntWalk.toNatUp, Nat.reduceEqDiff, Nat.reduceAdd, Nat.reduceMul, Nat.reduceSub, Nat.reduceLT, Nat.reduceLeDiff, Int.reduceToNat, Int.reduceLT, Int.reduceLE, Int.reduceEq, Int.reduceAdd, Int.reduceSub, Int.reduceMul, Int.toNat_natCast, reduceCtorEq, decide_true, decide_false, IntWalk.i64_in, IntWalk.u64_in, IntWalk.u8_in]) (BKeep.refl t o nx) (by omega) ?_
      · simp (disch := omega) only [go_sem, ↓IntWalk.iteOmega, IntWalk.toNatUp, Nat.reduceEqDiff, Nat.reduceAdd, Nat.reduceMul, Nat.reduceSub, Nat.reduceLT, Nat.reduceLeDiff, Int.reduceToNat, Int.reduceLT, Int.reduceLE, Int.reduceEq, Int.reduceAdd, Int.reduceSub, Int.reduceMul, Int.toNat_natCast, reduceCtorEq, decide_true, decide_false, IntWalk.i64_in, IntWalk.u64_in, IntWalk.u8_in]
        try rw [e1]
        try rfl
      · rintro a o' nx' h1 h2 h3 h4
        simp (disch := omega) only [go_sem, ↓IntWalk.iteOmega, IntWalk.toNatUp, Nat.reduceEqDiff, Nat.reduceAdd, Nat.reduceMul, Nat.reduceSub, Nat.reduceLT, Nat.reduceLeDiff, Int.reduceToNat, Int.reduceLT, Int.reduceLE, Int.reduceEq, Int.reduceAdd, Int.reduceSub, Int.reduceMul, Int.toNat_natCast, reduceCtorEq, decide_true, decide_false, IntWalk.i64_in, IntWalk.u64_in, IntWalk.u8_in]
        exact ⟨⟨h1, h2, h3⟩, h4⟩)
  refine ⟨v, H', h1, fun t' b' l' v0' e hv' hb => ?_⟩
  simp only [List.cons.injEq, AV.ptr.injEq, Prod.mk.injEq, and_true] at e
  obtain ⟨⟨rfl, _⟩, rfl⟩ := e
  rw [← h.same hb, ← hv.same hv']
  exact h2
end Go.Proofs.Ytfmijoglolecgaa.A
/- The builder: once, repeat. -/
namespace Go.Proofs.Ytfmijoglolecgaa.A
open Go
set_option maxRecDepth 20000
theorem BS.state_f (b : BS) : b.state.f = b.f := rfl
theorem BS.free_f (b : BS) (x y : Int) : (b.free x y).f = b.f ++ [(x, y)] := rfl
theorem BAt.eq {o nx t b b'} (h : BAt o nx t b) (e : b = b') : BAt o nx t b' := e ▸ h
theorem BAt.slot2 {o nx t b} (h : BAt o nx t b) {o' : Ob} {nx' : Nat} (ho : ∀ i j, (j = 8 ∧ i = t ∨ j = 139 ∨ j = 16) → o' (i, j) = o (i, j)) (hn : nx ≤ nx') : BAt o' nx' t b := by
  obtain ⟨vS, vF, h⟩ := h
  exact ⟨vS, vF, ⟨by have := h.lt; omega, by rw [ho _ _ (.inl ⟨rfl, rfl⟩)]; exact h.row, h.s.keep (fun i hi => ho i _ (.inr (.inl rfl))) hn, h.f.keep (fun i hi => ho i _ (.inr (.inr rfl))) hn⟩⟩
def ROnce (args : List AV) (H : AH) (v : AV) (H' : AH) : Prop := OkR Try.prog 28 args H v H' ∧ ∀ t b x ar bk, args = [bp t, nodeV x, .bool ar, .bool bk] → BAt H.o H.nx t b → v = bE (bOnce (bPart x) ar bk b).1 ∧ BTo t (bOnce (bPart x) ar bk b).2 H H'
theorem crOnce_ok : CRSound Try.prog (tabLookR [(27, cRel RState), (26, cRel RFree), (15, cRel RPartB)]) ∧ Up (tabLookR [(27, cRel RState), (26, cRel RFree), (15, cRel RPartB)]) :=
  tabR_cons (tabR_cons (tabR_cons (tabR_nil _) fun args H v H' h => (cRel_some h).1) fun args H v H' h => (cRel_some h).1) fun args H v H' h => (cRel_some h).1
theorem lookOnce (X) : lookedAt (EX md0 X) (fun _ => none) 4 Try.f28 = true := by kernel_rfl
theorem once_ok {x : Nd} (hk : okN x = true) (hpart : ∀ t o nx b, BAt o nx t b → Pre (hN x) b → ∃ v H', RPartB [bp t, nodeV x] ⟨o, nx⟩ v H') {t : Nat} {o : Ob} {nx : Nat} {b : BS} (h : BAt o nx t b) (hp : Pre (hN x + 1) b) (hh : hN x ≤ 1000) (ar bk : Bool) :
    ∃ v H', ROnce [bp t, nodeV x, .bool ar, .bool bk] ⟨o, nx⟩ v H' := by
  obtain ⟨cr, hcr⟩ : ∃ cr, cr = tabLookR [(27, cRel RState), (26, cRel RFree), (15, cRel RPartB)] := ⟨_, rfl⟩
  have hS : cr 27 = cRel RState := by rw [hcr]; rfl
  have hF : cr 26 = cRel RFree := by rw [hcr]; rfl
  have hP : cr 15 = cRel RPartB := by rw [hcr]; rfl
  obtain ⟨v, H', h1, h2⟩ := okR_of_WP (E := EX md0 (fun _ _ => none)) (cr := cr) (cp_none _) (hcr ▸ crOnce_ok) mixed (k := 0) (args := [bp t, nodeV x, .bool ar, .bool bk]) (o := o) (nx := nx) (Post := fun v o' nx' => v = bE (bOnce (bPart x) ar bk b).1 ∧ BTo t (bOnce (bPart x) ar bk b).2 ⟨o, nx⟩ ⟨o', nx'⟩) Try.func28 (lookOnce _) rfl (by
    clear hcr
    simp only [Try.f28, Option.getD_some]
    have hnew : ∀ y z, ∀ i j, i < nx → upd (upd o (nx, 5) y) (nx, 8) z (i, j) = o (i, j) := fun y z i j hi => by simp (disch := omega) only [upd_fst]
    have hbd := part_bd x hk b.state
    have e1 : b.state.n = b.n + 1 := rfl
    have e2 : b.state.f.length = b.f.length := rfl
    have e3 : b.state.s.length = b.s.length := rfl
    have hp1 := hp.f
    have hp2 := hp.s
    have hp3 := hp.n
    have htn : t < nx := by obtain ⟨vS, vF, h⟩ := h; exact h.lt
    simp (disch := omega) only [go_sem, ↓IntWalk.iteOmega, IntWalk.toNatUp, Nat.reduceEqDiff, Nat.reduceAdd, Nat.reduceMul, Nat.reduceSub, Nat.reduceLT, Nat.reduceLeDiff, Int.reduceToNat, Int.reduceLT, Int.reduceLE, Int.reduceEq, Int.reduceAdd, Int.reduceSub, Int.reduceMul, Int.toNat_natCast, reduceCtorEq, decide_true, decide_false, IntWalk.i64_in, IntWalk.u64_in, IntWalk.u8_in, hS]
    refine state_call (h.new (hnew _ _) (by omega)) (by omega) ?_
    intro o1 nx1 hle1 hB1 hk1
    have k1 : BKeep t o nx o1 := (BKeep.new (hnew (.row ⟨28, 1, (nx, 5), false, true, cNd x⟩) (.row ⟨51, 1, (nx, 8), false, true, [.int .i64 0, .int .i64 0]⟩))).trans hk1 (by omega)
    have hx5 : o1 (nx, 5) = some (.row ⟨28, 1, (nx, 5), false, true, cNd x⟩) := by rw [hk1 _ _ (by omega) (fun e => absurd e (by decide)) (by decide) (by decide)]; simp [upd_app]
    have hx8 : o1 (nx, 8) = some (.row ⟨51, 1, (nx, 8), false, true, [.int .i64 0, .int .i64 0]⟩) := by rw [hk1 _ _ (by omega) (fun _ => by omega) (by decide) (by decide)]; simp [upd_app]
    simp (disch := omega) only [go_sem, ↓IntWalk.iteOmega, IntWalk.toNatUp, Nat.reduceEqDiff, Nat.reduceAdd, Nat.reduceMul, Nat.reduceSub, Nat.reduceLT, Nat.reduceLeDiff, Int.reduceToNat, Int.reduceLT, Int.reduceLE, Int.reduceEq, Int.reduceAdd, Int.reduceSub, Int.reduceMul, Int.toNat_natCast, reduceCtorEq, decide_true, decide_false, IntWalk.i64_in, IntWalk.u64_in, IntWalk.u8_in, hx5, hP]
    refine part_call (hpart t _ _ b.state (hB1.new (fun _ _ _ => rfl) (by omega)) ⟨by omega, by omega, by omega⟩) (hB1.new (fun _ _ _ => rfl) (by omega)) ?_
    intro o2 nx2 hle2 hB2 hk2
    have k2 : BKeep t o nx o2 := k1.trans (fun i j (hi : i < nx1) => hk2 i j (by omega)) (by omega)
    have hy8 : o2 (nx, 8) = some (.row ⟨51, 1, (nx, 8), false, true, [.int .i64 0, .int .i64 0]⟩) := by rw [hk2 _ _ (by omega) (fun _ => by omega) (by decide) (by decide)]; exact hx8
    simp (disch := omega) only [go_sem, ↓IntWalk.iteOmega, IntWalk.toNatUp, Nat.reduceEqDiff, Nat.reduceAdd, Nat.reduceMul, Nat.reduceSub, Nat.reduceLT, Nat.reduceLeDiff, Int.reduceToNat, Int.reduceLT, Int.reduceLE, Int.reduceEq, Int.reduceAdd, Int.reduceSub, Int.reduceMul, Int.toNat_natCast, reduceCtorEq, decide_true, decide_false, IntWalk.i64_in, IntWalk.u64_in, IntWalk.u8_in, hS]
    have hb1 := hbd.hi
    have hb2 := hbd.f4
    have hb3 := hbd.s1
    obtain ⟨q, hq⟩ : ∃ q, q = upd (upd o2 (nx1, 10) (.row ⟨51, 1, (nx1, 10), false, true, [.int .i64 0, .int .i64 0]⟩)) (nx1, 10) (.row ⟨51, 1, (nx1, 10), false, true, [.int .i64 (bPart x b.state).1.1, .int .i64 (bPart x b.state).1.2]⟩) := ⟨_, rfl⟩
    rw [← hq]
    have hz2 : q (nx1, 10) = some (.row ⟨51, 1, (nx1, 10), false, true, [.int .i64 (bPart x b.state).1.1, .int .i64 (bPart x b.state).1.2]⟩) := by rw [hq]; exact upd_same _ _ _
    have hq2 : ∀ i j, j ≠ 10 → q (i, j) = o2 (i, j) := fun i j h => by rw [hq]; simp [upd_app, h]
    have hq3 : ∀ i j, i < nx → q (i, j) = o2 (i, j) := fun i j h => by
      have : i ≠ nx1 := by omega
      rw [hq]; simp [upd_app, this]
    clear hq
    have hB2' : BAt q (nx2 + 1) t (bPart x b.state).2 := hB2.slot (fun i j hj => hq2 i j (by omega)) (by omega)
    have k2' : BKeep t o nx q := fun i j hi a1 a2 a3 => (hq3 i j hi).trans (k2 i j hi a1 a2 a3)
    have hy2 := (hq2 nx 8 (by decide)).trans hy8
    refine state_call hB2' (by omega) ?_
    intro o3 nx3 hle3 hB3 hk3
    have k3 : BKeep t o nx o3 := k2'.trans (fun i j (hi : i < nx2) => hk3 i j (by omega)) (by omega)
    have hz3 := (hk3 nx1 10 (by omega) (fun e => absurd e (by decide)) (by decide) (by decide)).trans hz2
    have hy3 := (hk3 nx 8 (by omega) (fun _ => by omega) (by decide) (by decide)).trans hy2
    simp (disch := omega) only [go_sem, ↓IntWalk.iteOmega, IntWalk.toNatUp, Nat.reduceEqDiff, Nat.reduceAdd, Nat.reduceMul, Nat.reduceSub, Nat.reduceLT, Nat.reduceLeDiff, Int.reduceToNat, Int.reduceLT, Int.reduceLE, Int.reduceEq, Int.reduceAdd, Int.reduceSub, Int.reduceMul, Int.toNat_natCast, reduceCtorEq, decide_true, decide_false, IntWalk.i64_in, IntWalk.u64_in, IntWalk.u8_in, hF, hz3]
    have hlt3 : t < nx := htn
    have hnn : nx ≤ nx3 := by omega
    cases ar <;> cases bk
    all_goals
      repeat
        refine free_call (hB3.new (fun _ _ _ => rfl) (by omega)) _ _ (by simp only [BS.free_f, BS.state_f, List.length_append, List.length_cons, List.length_nil]; omega) ?_
        intro o3 nx3 hle3 hB4 hk4
        replace k3 : BKeep t o nx o3 := k3.trans (fun i j (hi : i < _) => hk4 i j (by omega)) (by omega)
        replace hz3 := (hk4 nx1 10 (by omega) (fun e => absurd e (by decide)) (by decide) (by decide)).trans hz3
        replace hy3 := (hk4 nx 8 (by omega) (fun _ => by omega) (by decide) (by decide)).trans hy3
        replace hB3 := hB4
        replace hnn : nx ≤ nx3 := by omega
        clear hB4 hk4
        simp (disch := omega) only [go_sem, ↓IntWalk.iteOmega, IntWalk.toNatUp, Nat.reduceEqDiff, Nat.reduceAdd, Nat.reduceMul, Nat.reduceSub, Nat.reduceLT, Nat.reduceLeDiff, Int.reduceToNat, Int.reduceLT, Int.reduceLE, Int.reduceEq, Int.reduceAdd, Int.reduceSub, Int.reduceMul, Int.toNat_natCast, reduceCtorEq, decide_true, decide_false, IntWalk.i64_in, IntWalk.u64_in, IntWalk.u8_in, hF, hz3, hy3]
      refine ⟨rfl, by show nx ≤ nx3 + 1; omega, ?_, fun i j hi a1 a2 a3 => ?_⟩
      · refine (BAt.slot2 (b := _) hB3 (fun i j hj => ?_) (by show nx3 ≤ nx3 + 1; omega)).eq ?_
        · have : ¬ (j = 8 ∧ i = nx) := by omega
          exact upd_ne _ _ _ _ (fun e => this (by injection e with e1 e2; exact ⟨e2, e1⟩))
        · simp [bOnce, BS.frees, BS.free, BS.state]
      · exact (upd_ne _ _ _ _ (fun e => by injection e with e1 e2; have : i < nx := hi; omega)).trans (k3 i j hi a1 a2 a3))
  refine ⟨v, H', h1, fun t' b' x' ar' bk' e hb => ?_⟩
  simp only [List.cons.injEq, AV.ptr.injEq, Prod.mk.injEq, AV.agg.injEq, AV.bool.injEq, and_true] at e
  obtain ⟨⟨rfl, _⟩, e2, rfl, rfl⟩ := e
  rw [← h.same hb, ← cNd_inj e2]
  exact h2
end Go.Proofs.Ytfmijoglolecgaa.A
/- The builder: repeat. UNDER WAY. -/
namespace Go.Proofs.Ytfmijoglolecgaa.A
open Go
set_option maxRecDepth 20000
theorem once_call {x : Nd} {t : Nat} {o : Ob} {nx : Nat} {b : BS} {ar bk : Bool} {K : AV × AH → Prop} (hex : ∃ v H', ROnce [bp t, nodeV x, .bool ar, .bool bk] ⟨o, nx⟩ v H') (h : BAt o nx t b) (hK : ∀ o' nx', nx ≤ nx' → BAt o' nx' t (bOnce (bPart x) ar bk b).2 → BKeep t o nx o' → K (bE (bOnce (bPart x) ar bk b).1, ⟨o', nx'⟩)) :
    wO (Option.map (fun p => freezeR false p.1 p.2) (cRel ROnce [bp t, nodeV x, .bool ar, .bool bk] ⟨o, nx⟩)) K := by
  refine cRel_call hex fun v H' hr => ?_
  obtain ⟨rfl, h1, h2, h3⟩ := hr.2 t b x ar bk rfl h
  exact hK H'.o H'.nx h1 h2 h3
def RRep (args : List AV) (H : AH) (v : AV) (H' : AH) : Prop := OkR Try.prog 29 args H v H' ∧ ∀ t b kind set lo hi x l, args = [bp t, nodeV (.mk kind set lo hi (x :: l))] → BAt H.o H.nx t b → v = bE (bRepeat lo hi.toNat (bPart x) b).1 ∧ BTo t (bRepeat lo hi.toNat (bPart x) b).2 H H'
theorem lookRep (X) : lookedAt (EX md0 X) (fun _ => none) 2 Try.f29 = true := by kernel_rfl
theorem crRep_ok : CRSound Try.prog (tabLookR [(27, cRel RState), (26, cRel RFree), (16, cRel RFull), (25, cRel RParts)]) ∧ Up (tabLookR [(27, cRel RState), (26, cRel RFree), (16, cRel RFull), (25, cRel RParts)]) :=
  tabR_cons (tabR_cons (tabR_cons (tabR_cons (tabR_nil _) fun args H v H' h => (cRel_some h).1) fun args H v H' h => (cRel_some h).1) fun args H v H' h => (cRel_some h).1) fun args H v H' h => (cRel_some h).1
theorem rep_loop1 {cr : CallR} {kind set lo hi : Int} {x : Nd} {l : List Nd} {t r : Nat} {o0 : Ob} {nx0 : Nat} {b : BS} {s5 : AV} {a : AAct} {o : Ob} {nx : Nat} {Q : WPost} (hh : 0 ≤ hi ∧ hi ≤ 10) (hr : nx0 ≤ r) (hnx : nx0 ≤ nx) (hB : BAt o nx t b) (h3 : a 3 = .ptr (r, 3) (r, 3) 0) (ho3 : o (r, 3) = some (.row ⟨28, 1, (r, 3), false, true, cNd (.mk kind set lo hi (x :: l))⟩)) (ha6 : ∃ i, a 6 = .ref (i, 17) (i, 17) 0 0 ∧ i < nx ∧ nx0 ≤ i ∧ o (i, 17) = some (.row ⟨28, 5, (i, 17), false, true, []⟩)) (ha19 : a 19 = .int .i64 hi) (ha20 : a 20 = .int .i64 0)
    (hmore : a 0 = bp t ∧ a 5 = s5 ∧ a 4 = .ptr (r, 4) (r, 4) 0 ∧ o (r, 4) = some (.row ⟨51, 1, (r, 4), false, true, [.int .i64 0, .int .i64 0]⟩) ∧ BKeep t o0 nx0 o)
    (hQ : ∀ a o nx v, nx0 ≤ nx → a 6 = v → HS 28 5 17 o nx v hi.toNat (cNds (List.replicate hi.toNat x)) → a 3 = .ptr (r, 3) (r, 3) 0 → o (r, 3) = some (.row ⟨28, 1, (r, 3), false, true, cNd (.mk kind set lo hi (x :: l))⟩) → BAt o nx t b → a 0 = bp t → a 5 = s5 → a 4 = .ptr (r, 4) (r, 4) 0 → o (r, 4) = some (.row ⟨51, 1, (r, 4), false, true, [.int .i64 0, .int .i64 0]⟩) → BKeep t o0 nx0 o → Q .normal a o nx) :
    WP (EX md0 (fun _ _ => none)) cr 30 (fun _ => none) (pathC [1, 1, 1, 0, 1, 0] (Try.f29.body.getD .skip)) a o nx (blockQ 0 Q) := by
  simp only [Try.f29, Option.getD_some, pathC]
  refine WP_loop (fun m a o nx => ∃ (i j : Nat) (g : Tag), (i : Int) ≤ hi ∧ m = (hi - i).toNat ∧ nx0 ≤ nx ∧ a 6 = .ref (j, 17) g 0 i ∧ j < nx ∧ nx0 ≤ j ∧ o (j, 17) = some (.row ⟨28, 5, g, false, true, cNds (List.replicate i x)⟩) ∧ a 3 = .ptr (r, 3) (r, 3) 0 ∧ o (r, 3) = some (.row ⟨28, 1, (r, 3), false, true, cNd (.mk kind set lo hi (x :: l))⟩) ∧ a 19 = .int .i64 hi ∧ a 20 = .int .i64 i ∧ BAt o nx t b ∧ a 0 = bp t ∧ a 5 = s5 ∧ a 4 = .ptr (r, 4) (r, 4) 0 ∧ o (r, 4) = some (.row ⟨51, 1, (r, 4), false, true, [.int .i64 0, .int .i64 0]⟩) ∧ BKeep t o0 nx0 o) hi.toNat (by omega) ?_ ?_
  · obtain ⟨i, e1, e2, e3, e4⟩ := ha6
    exact ⟨0, i, (i, 17), by omega, by omega, hnx, e1, e2, e3, e4, h3, ho3, ha19, ha20, hB, hmore⟩
  · clear hmore
    rintro m a o nx ⟨i, j, g, hi', rfl, hnx, h6, hj, hj0, hrow, h3, ho3, h19, h20, hB, h0, h5, h4, ho4, hkp⟩
    by_cases hlt : (i : Int) < hi
    · have hat := cNds_cons x l
      obtain ⟨cs, hcs⟩ : ∃ cs, cs = cNds (List.replicate i x) := ⟨_, rfl⟩
      have hln : cs.length = i * 5 := by rw [hcs, cNds_length, List.length_replicate]
      have htk : cs.take (i * 5) = cs := take_len hln
      rw [← hcs] at hrow
      have hsn : cNds (List.replicate (i + 1) x) = cs ++ cNd x := by rw [List.replicate_succ', cNds_app, cNds_one, hcs]
      simp (disch := omega) only [go_sem, ↓IntWalk.iteOmega, IntWalk.toNatUp, Nat.reduceEqDiff, Nat.reduceAdd, Nat.reduceMul, Nat.reduceSub, Nat.reduceLT, Nat.reduceLeDiff, Int.reduceToNat, Int.reduceLT, Int.reduceLE, Int.reduceEq, Int.reduceAdd, Int.reduceSub, Int.reduceMul, Int.toNat_natCast, reduceCtorEq, decide_true, decide_false, IntWalk.i64_in, IntWalk.u64_in, IntWalk.u8_in, h6, h3, ho3, h19, h20, hrow, hat, hln, htk, h0, h5, h4, ho4]
      refine ⟨_, ?_, i + 1, j, (nx + 1, 28), by omega, rfl, by omega, rfl, by omega, hj0, by rw [if_pos rfl, hsn], rfl, ?_, ?_⟩
      · omega
      · exact hB.slot2 (fun i' j' hj' => by have e1 : j' ≠ 17 := by omega
                                            have e2 : j' ≠ 27 := by omega
                                            simp [upd_app, e1, e2]) (by omega)
      · intro i' j' hi1 a1 a2 a3
        rw [← hkp i' j' hi1 a1 a2 a3]
        have e1 : i' ≠ j := by omega
        have e2 : i' ≠ nx + 1 := by omega
        simp [upd_app, e1, e2]
    · have hie : hi.toNat = i := by omega
      simp (disch := omega) only [go_sem, ↓IntWalk.iteOmega, IntWalk.toNatUp, Nat.reduceEqDiff, Nat.reduceAdd, Nat.reduceMul, Nat.reduceSub, Nat.reduceLT, Nat.reduceLeDiff, Int.reduceToNat, Int.reduceLT, Int.reduceLE, Int.reduceEq, Int.reduceAdd, Int.reduceSub, Int.reduceMul, Int.toNat_natCast, reduceCtorEq, decide_true, decide_false, IntWalk.i64_in, IntWalk.u64_in, IntWalk.u8_in, h6, h3, ho3, h19, h20, hrow]
      refine hQ _ _ _ _ (by omega) rfl ?_ (by simp (disch := omega) only [go_sem, ↓IntWalk.iteOmega, IntWalk.toNatUp, Nat.reduceEqDiff, Nat.reduceAdd, Nat.reduceMul, Nat.reduceSub, Nat.reduceLT, Nat.reduceLeDiff, Int.reduceToNat, Int.reduceLT, Int.reduceLE, Int.reduceEq, Int.reduceAdd, Int.reduceSub, Int.reduceMul, Int.toNat_natCast, reduceCtorEq, decide_true, decide_false, IntWalk.i64_in, IntWalk.u64_in, IntWalk.u8_in, h3]) ho3 (hB.new (fun _ _ _ => rfl) (by omega)) (by simp (disch := omega) only [go_sem, ↓IntWalk.iteOmega, IntWalk.toNatUp, Nat.reduceEqDiff, Nat.reduceAdd, Nat.reduceMul, Nat.reduceSub, Nat.reduceLT, Nat.reduceLeDiff, Int.reduceToNat, Int.reduceLT, Int.reduceLE, Int.reduceEq, Int.reduceAdd, Int.reduceSub, Int.reduceMul, Int.toNat_natCast, reduceCtorEq, decide_true, decide_false, IntWalk.i64_in, IntWalk.u64_in, IntWalk.u8_in, h0]) (by simp (disch := omega) only [go_sem, ↓IntWalk.iteOmega, IntWalk.toNatUp, Nat.reduceEqDiff, Nat.reduceAdd, Nat.reduceMul, Nat.reduceSub, Nat.reduceLT, Nat.reduceLeDiff, Int.reduceToNat, Int.reduceLT, Int.reduceLE, Int.reduceEq, Int.reduceAdd, Int.reduceSub, Int.reduceMul, Int.toNat_natCast, reduceCtorEq, decide_true, decide_false, IntWalk.i64_in, IntWalk.u64_in, IntWalk.u8_in, h5]) (by simp (disch := omega) only [go_sem, ↓IntWalk.iteOmega, IntWalk.toNatUp, Nat.reduceEqDiff, Nat.reduceAdd, Nat.reduceMul, Nat.reduceSub, Nat.reduceLT, Nat.reduceLeDiff, Int.reduceToNat, Int.reduceLT, Int.reduceLE, Int.reduceEq, Int.reduceAdd, Int.reduceSub, Int.reduceMul, Int.toNat_natCast, reduceCtorEq, decide_true, decide_false, IntWalk.i64_in, IntWalk.u64_in, IntWalk.u8_in, h4]) ho4 hkp
      simp (disch := omega) only [go_sem, ↓IntWalk.iteOmega, IntWalk.toNatUp, Nat.reduceEqDiff, Nat.reduceAdd, Nat.reduceMul, Nat.reduceSub, Nat.reduceLT, Nat.reduceLeDiff, Int.reduceToNat, Int.reduceLT, Int.reduceLE, Int.reduceEq, Int.reduceAdd, Int.reduceSub, Int.reduceMul, Int.toNat_natCast, reduceCtorEq, decide_true, decide_false, IntWalk.i64_in, IntWalk.u64_in, IntWalk.u8_in, h6]
      rw [hie]
      exact .inr ⟨j, g, rfl, by omega, hrow, by rw [cNds_length, List.length_replicate]⟩
theorem frees_nil (b : BS) : b.frees [] = b := by cases b; simp [BS.frees]
theorem frees_cons (b : BS) (x y : Int) (l) : b.frees ((x, y) :: l) = (b.free x y).frees l := by simp [BS.frees, BS.free]
theorem frees_app (b : BS) (k l) : b.frees (k ++ l) = (b.frees k).frees l := by simp [BS.frees]
theorem getD_drop {α : Type} (l : List α) (d : α) {i : Nat} (h : i < l.length) : l.drop i = l.getD i d :: l.drop (i + 1) := by
  rw [List.drop_eq_getElem_cons h, List.getD_eq_getElem?_getD, List.getElem?_eq_getElem h]; rfl
theorem rLinks_last {lo e : Int} {p : List (Int × Int)} {i : Nat} (h : i + 1 = p.length) : rLinks lo e i (p.drop i) = [((p.getD i (0, 0)).2, e)] ∧ p.drop (i + 1) = [] := by
  have e1 : p.drop (i + 1) = [] := List.drop_of_length_le (by omega)
  rw [getD_drop p (0, 0) (show i < p.length by omega), e1]
  exact ⟨by rw [rLinks], rfl⟩
theorem rLinks_next {lo e : Int} {p : List (Int × Int)} {i : Nat} (h : i + 1 < p.length) : rLinks lo e i (p.drop i) = (if (i : Int) + 1 ≥ lo then [((p.getD i (0, 0)).2, e)] else []) ++ ((p.getD i (0, 0)).2, (p.getD (i + 1) (0, 0)).1) :: rLinks lo e (i + 1) (p.drop (i + 1)) := by
  rw [getD_drop p (0, 0) (show i < p.length by omega), getD_drop p (0, 0) h, rLinks]
theorem BKeep.row {t o nx o'} (h : BKeep t o nx o') {i j : Nat} {x : Option AObj} (hx : o (i, j) = x) (hi : i < nx) (h1 : j = 8 → i ≠ t) (h2 : j ≠ 139) (h3 : j ≠ 16) : o' (i, j) = x := (h i j hi h1 h2 h3).trans hx
theorem rep_loop2 {cr : CallR} (hF : cr 26 = cRel RFree) {kind set lo hi e : Int} {x : Nd} {l : List Nd} {t r : Nat} {o0 : Ob} {nx0 : Nat} {T b : BS} {p : List (Int × Int)} {vp s5 : AV} {a : AAct} {o : Ob} {nx : Nat} {Q : WPost} (hlo : 0 ≤ lo ∧ lo ≤ 10) (hlen : p.length ≤ 10) (hr : nx0 ≤ r) (hrn : r < nx) (hnx : nx0 ≤ nx) (hB : BAt o nx t b) (hT : b.frees (rLinks lo e 0 p) = T) (hbf : b.f.length ≤ 1000000) (hp : HS 51 2 21 o nx vp p.length (cP p)) (h3 : a 3 = .ptr (r, 3) (r, 3) 0) (ho3 : o (r, 3) = some (.row ⟨28, 1, (r, 3), false, true, cNd (.mk kind set lo hi (x :: l))⟩)) (h7 : a 7 = vp) (h52 : a 52 = vp) (h53 : a 53 = .int .i64 p.length) (h54 : a 54 = .int .i64 0)
    (hmore : a 0 = bp t ∧ a 5 = s5 ∧ a 4 = .ptr (r, 4) (r, 4) 0 ∧ o (r, 4) = some (.row ⟨51, 1, (r, 4), false, true, [.int .i64 0, .int .i64 0]⟩) ∧ a 8 = .int .i64 e ∧ a 9 = .fn (.func 26) [bp t] [] ∧ BKeep t o0 nx0 o)
    (hQ : ∀ a o nx, nx0 ≤ nx → r < nx → a 3 = .ptr (r, 3) (r, 3) 0 → o (r, 3) = some (.row ⟨28, 1, (r, 3), false, true, cNd (.mk kind set lo hi (x :: l))⟩) → BAt o nx t T → a 0 = bp t → a 5 = s5 → a 4 = .ptr (r, 4) (r, 4) 0 → o (r, 4) = some (.row ⟨51, 1, (r, 4), false, true, [.int .i64 0, .int .i64 0]⟩) → a 8 = .int .i64 e → a 9 = .fn (.func 26) [bp t] [] → BKeep t o0 nx0 o → Q .normal a o nx) :
    WP (EX md0 (fun _ _ => none)) cr 30 (fun _ => none) (pathC [1, 1, 1, 1, 1, 1, 1, 1, 1, 0, 1, 0] (Try.f29.body.getD .skip)) a o nx (blockQ 2 Q) := by
  simp only [Try.f29, Option.getD_some, pathC]
  refine WP_loop (fun m a o nx => ∃ (i : Nat) (b : BS), i ≤ p.length ∧ m = p.length - i ∧ nx0 ≤ nx ∧ r < nx ∧ BAt o nx t b ∧ b.frees (rLinks lo e i (p.drop i)) = T ∧ b.f.length ≤ 1000000 + 2 * i ∧ HS 51 2 21 o nx vp p.length (cP p) ∧ a 3 = .ptr (r, 3) (r, 3) 0 ∧ o (r, 3) = some (.row ⟨28, 1, (r, 3), false, true, cNd (.mk kind set lo hi (x :: l))⟩) ∧ a 7 = vp ∧ a 52 = vp ∧ a 53 = .int .i64 p.length ∧ a 54 = .int .i64 i ∧ a 0 = bp t ∧ a 5 = s5 ∧ a 4 = .ptr (r, 4) (r, 4) 0 ∧ o (r, 4) = some (.row ⟨51, 1, (r, 4), false, true, [.int .i64 0, .int .i64 0]⟩) ∧ a 8 = .int .i64 e ∧ a 9 = .fn (.func 26) [bp t] [] ∧ BKeep t o0 nx0 o) p.length (by omega) ⟨0, b, by omega, by omega, hnx, hrn, hB, hT, by omega, hp, h3, ho3, h7, h52, h53, h54, hmore⟩ ?_
  clear hmore h3 ho3 h7 h52 h53 h54 hB hT hbf hp hrn hnx
  rintro m a o nx ⟨i, b, hi, rfl, hnx, hrn, hB, hT, hbf, hp, h3, ho3, h7, h52, h53, h54, h0, h5, h4, ho4, h8, h9, hkp⟩
  by_cases hlt : i < p.length
  · rcases hp with ⟨_, e1, _⟩ | ⟨i1, g1, rfl, hi1, hrow, hlen'⟩
    · omega
    · have hat := cP_at hlt
      have hsl : ∀ y z i' j', j' ≠ 11 → upd (upd o (nx + 1, 11) y) (nx + 1, 11) z (i', j') = o (i', j') := fun y z i' j' h => by simp [upd_app, h]
      have hsn : ∀ y z i' j', i' < nx → upd (upd o (nx + 1, 11) y) (nx + 1, 11) z (i', j') = o (i', j') := fun y z i' j' h => by
        have : i' ≠ nx + 1 := by omega
        simp [upd_app, this]
      by_cases hl : i + 1 = p.length
      · have hl' : ((i : Int) = (p.length : Int) - 1) = True := eq_true (by omega)
        simp (disch := omega) only [go_sem, ↓IntWalk.iteOmega, IntWalk.toNatUp, Nat.reduceEqDiff, Nat.reduceAdd, Nat.reduceMul, Nat.reduceSub, Nat.reduceLT, Nat.reduceLeDiff, Int.reduceToNat, Int.reduceLT, Int.reduceLE, Int.reduceEq, Int.reduceAdd, Int.reduceSub, Int.reduceMul, Int.toNat_natCast, reduceCtorEq, decide_true, decide_false, IntWalk.i64_in, IntWalk.u64_in, IntWalk.u8_in, h0, h3, ho3, h7, h8, h9, h52, h53, h54, hrow, hat, hF, hl']
        refine free_call (hB.slot2 (fun i' j' hj' => hsl _ _ i' j' (by omega)) (by omega)) _ _ (by omega) ?_
        intro o1 nx1 hle1 hB1 hk1
        have k1 : BKeep t o nx o1 := (BKeep.new (hsn _ _)).trans hk1 (by omega)
        simp (disch := omega) only [go_sem, ↓IntWalk.iteOmega, IntWalk.toNatUp, Nat.reduceEqDiff, Nat.reduceAdd, Nat.reduceMul, Nat.reduceSub, Nat.reduceLT, Nat.reduceLeDiff, Int.reduceToNat, Int.reduceLT, Int.reduceLE, Int.reduceEq, Int.reduceAdd, Int.reduceSub, Int.reduceMul, Int.toNat_natCast, reduceCtorEq, decide_true, decide_false, IntWalk.i64_in, IntWalk.u64_in, IntWalk.u8_in, h0, h3, ho3, h7, h8, h9, h52, h53, h54, hrow, hat, hF, hl']
        obtain ⟨q1, q2⟩ := rLinks_last (lo := lo) (e := e) hl
        rw [q1, frees_cons, frees_nil] at hT
        refine ⟨_, ?_, i + 1, _, by omega, rfl, by omega, by omega, hB1.new (fun _ _ _ => rfl) (by omega), ?_, by simp only [BS.free_f, List.length_append, List.length_cons, List.length_nil]; omega, .inr ⟨i1, g1, rfl, by omega, k1.row hrow hi1 (fun e => absurd e (by decide)) (by decide) (by decide), hlen'⟩, k1.row ho3 hrn (fun e => absurd e (by decide)) (by decide) (by decide), rfl, h5, h4, k1.row ho4 hrn (fun e => absurd e (by decide)) (by decide) (by decide), hkp.trans k1 hnx⟩
        · omega
        · rw [q2, rLinks, frees_nil, hT]
      · have hl' : ¬ (i : Int) = (p.length : Int) - 1 := by omega
        have hat2 := cP_at (show i + 1 < p.length by omega)
        have q1 := rLinks_next (lo := lo) (e := e) (show i + 1 < p.length by omega)
        by_cases hlo' : (i : Int) + 1 ≥ lo
        · rw [q1, if_pos hlo', List.singleton_append, frees_cons, frees_cons] at hT
          simp (disch := omega) only [go_sem, ↓IntWalk.iteOmega, IntWalk.toNatUp, Nat.reduceEqDiff, Nat.reduceAdd, Nat.reduceMul, Nat.reduceSub, Nat.reduceLT, Nat.reduceLeDiff, Int.reduceToNat, Int.reduceLT, Int.reduceLE, Int.reduceEq, Int.reduceAdd, Int.reduceSub, Int.reduceMul, Int.toNat_natCast, reduceCtorEq, decide_true, decide_false, IntWalk.i64_in, IntWalk.u64_in, IntWalk.u8_in, h0, h3, ho3, h7, h8, h9, h52, h53, h54, hrow, hat, hF, hl', hlo', hat2]
          refine free_call (hB.slot2 (fun i' j' hj' => hsl _ _ i' j' (by omega)) (by omega)) _ _ (by omega) ?_
          intro o1 nx1 hle1 hB1 hk1
          have k1 : BKeep t o nx o1 := (BKeep.new (hsn _ _)).trans hk1 (by omega)
          have hz1 : o1 (nx + 1, 11) = some (.row ⟨51, 1, (nx + 1, 11), false, true, [.int .i64 (p.getD i (0, 0)).1, .int .i64 (p.getD i (0, 0)).2]⟩) := by rw [hk1 _ _ (by omega) (fun e => absurd e (by decide)) (by decide) (by decide)]; exact upd_same _ _ _
          have hrow1 := k1.row hrow hi1 (fun e => absurd e (by decide)) (by decide) (by decide)
          have ho31 := k1.row ho3 hrn (fun e => absurd e (by decide)) (by decide) (by decide)
          have ho41 := k1.row ho4 hrn (fun e => absurd e (by decide)) (by decide) (by decide)
          simp (disch := omega) only [go_sem, ↓IntWalk.iteOmega, IntWalk.toNatUp, Nat.reduceEqDiff, Nat.reduceAdd, Nat.reduceMul, Nat.reduceSub, Nat.reduceLT, Nat.reduceLeDiff, Int.reduceToNat, Int.reduceLT, Int.reduceLE, Int.reduceEq, Int.reduceAdd, Int.reduceSub, Int.reduceMul, Int.toNat_natCast, reduceCtorEq, decide_true, decide_false, IntWalk.i64_in, IntWalk.u64_in, IntWalk.u8_in, h0, h3, ho31, h7, h8, h9, h52, h53, h54, hrow1, hat, hF, hl', hat2, hz1]
          refine free_call (hB1.new (fun _ _ _ => rfl) (by omega)) _ _ (by simp only [BS.free_f, List.length_append, List.length_cons, List.length_nil]; omega) ?_
          intro o2 nx2 hle2 hB2 hk2
          have k2 : BKeep t o nx o2 := k1.trans (fun i j (hi : i < nx1) => hk2 i j (by omega)) (by omega)
          simp (disch := omega) only [go_sem, ↓IntWalk.iteOmega, IntWalk.toNatUp, Nat.reduceEqDiff, Nat.reduceAdd, Nat.reduceMul, Nat.reduceSub, Nat.reduceLT, Nat.reduceLeDiff, Int.reduceToNat, Int.reduceLT, Int.reduceLE, Int.reduceEq, Int.reduceAdd, Int.reduceSub, Int.reduceMul, Int.toNat_natCast, reduceCtorEq, decide_true, decide_false, IntWalk.i64_in, IntWalk.u64_in, IntWalk.u8_in, h0, h3, ho31, h7, h8, h9, h52, h53, h54, hrow1, hat, hF, hl', hat2, hz1]
          refine ⟨_, ?_, i + 1, _, by omega, rfl, by omega, by omega, hB2.new (fun _ _ _ => rfl) (by omega), hT, by simp only [BS.free_f, List.length_append, List.length_cons, List.length_nil]; omega, .inr ⟨i1, g1, rfl, by omega, k2.row hrow hi1 (fun e => absurd e (by decide)) (by decide) (by decide), hlen'⟩, k2.row ho3 hrn (fun e => absurd e (by decide)) (by decide) (by decide), rfl, h5, h4, k2.row ho4 hrn (fun e => absurd e (by decide)) (by decide) (by decide), hkp.trans k2 hnx⟩
          omega
        · rw [q1, if_neg hlo', List.nil_append, frees_cons] at hT
          simp (disch := omega) only [go_sem, ↓IntWalk.iteOmega, IntWalk.toNatUp, Nat.reduceEqDiff, Nat.reduceAdd, Nat.reduceMul, Nat.reduceSub, Nat.reduceLT, Nat.reduceLeDiff, Int.reduceToNat, Int.reduceLT, Int.reduceLE, Int.reduceEq, Int.reduceAdd, Int.reduceSub, Int.reduceMul, Int.toNat_natCast, reduceCtorEq, decide_true, decide_false, IntWalk.i64_in, IntWalk.u64_in, IntWalk.u8_in, h0, h3, ho3, h7, h8, h9, h52, h53, h54, hrow, hat, hF, hl', hlo', hat2]
          refine free_call (hB.slot2 (fun i' j' hj' => hsl _ _ i' j' (by omega)) (by omega)) _ _ (by omega) ?_
          intro o1 nx1 hle1 hB1 hk1
          have k1 : BKeep t o nx o1 := (BKeep.new (hsn _ _)).trans hk1 (by omega)
          simp (disch := omega) only [go_sem, ↓IntWalk.iteOmega, IntWalk.toNatUp, Nat.reduceEqDiff, Nat.reduceAdd, Nat.reduceMul, Nat.reduceSub, Nat.reduceLT, Nat.reduceLeDiff, Int.reduceToNat, Int.reduceLT, Int.reduceLE, Int.reduceEq, Int.reduceAdd, Int.reduceSub, Int.reduceMul, Int.toNat_natCast, reduceCtorEq, decide_true, decide_false, IntWalk.i64_in, IntWalk.u64_in, IntWalk.u8_in, h0, h3, ho3, h7, h8, h9, h52, h53, h54, hrow, hat, hF, hl']
          refine ⟨_, ?_, i + 1, _, by omega, rfl, by omega, by omega, hB1.new (fun _ _ _ => rfl) (by omega), hT, by simp only [BS.free_f, List.length_append, List.length_cons, List.length_nil]; omega, .inr ⟨i1, g1, rfl, by omega, k1.row hrow hi1 (fun e => absurd e (by decide)) (by decide) (by decide), hlen'⟩, k1.row ho3 hrn (fun e => absurd e (by decide)) (by decide) (by decide), rfl, h5, h4, k1.row ho4 hrn (fun e => absurd e (by decide)) (by decide) (by decide), hkp.trans k1 hnx⟩
          omega
  · simp (disch := omega) only [go_sem, ↓IntWalk.iteOmega, IntWalk.toNatUp, Nat.reduceEqDiff, Nat.reduceAdd, Nat.reduceMul, Nat.reduceSub, Nat.reduceLT, Nat.reduceLeDiff, Int.reduceToNat, Int.reduceLT, Int.reduceLE, Int.reduceEq, Int.reduceAdd, Int.reduceSub, Int.reduceMul, Int.toNat_natCast, reduceCtorEq, decide_true, decide_false, IntWalk.i64_in, IntWalk.u64_in, IntWalk.u8_in, h0, h3, ho3, h7, h8, h9, h52, h53, h54]
    rw [List.drop_of_length_le (by omega), rLinks, frees_nil] at hT
    refine hQ _ _ _ (by omega) (by omega) (by simp (disch := omega) only [go_sem, ↓IntWalk.iteOmega, IntWalk.toNatUp, Nat.reduceEqDiff, Nat.reduceAdd, Nat.reduceMul, Nat.reduceSub, Nat.reduceLT, Nat.reduceLeDiff, Int.reduceToNat, Int.reduceLT, Int.reduceLE, Int.reduceEq, Int.reduceAdd, Int.reduceSub, Int.reduceMul, Int.toNat_natCast, reduceCtorEq, decide_true, decide_false, IntWalk.i64_in, IntWalk.u64_in, IntWalk.u8_in, h3]) ho3 (hT ▸ hB.new (fun _ _ _ => rfl) (by omega)) (by simp (disch := omega) only [go_sem, ↓IntWalk.iteOmega, IntWalk.toNatUp, Nat.reduceEqDiff, Nat.reduceAdd, Nat.reduceMul, Nat.reduceSub, Nat.reduceLT, Nat.reduceLeDiff, Int.reduceToNat, Int.reduceLT, Int.reduceLE, Int.reduceEq, Int.reduceAdd, Int.reduceSub, Int.reduceMul, Int.toNat_natCast, reduceCtorEq, decide_true, decide_false, IntWalk.i64_in, IntWalk.u64_in, IntWalk.u8_in, h0]) (by simp (disch := omega) only [go_sem, ↓IntWalk.iteOmega, IntWalk.toNatUp, Nat.reduceEqDiff, Nat.reduceAdd, Nat.reduceMul, Nat.reduceSub, Nat.reduceLT, Nat.reduceLeDiff, Int.reduceToNat, Int.reduceLT, Int.reduceLE, Int.reduceEq, Int.reduceAdd, Int.reduceSub, Int.reduceMul, Int.toNat_natCast, reduceCtorEq, decide_true, decide_false, IntWalk.i64_in, IntWalk.u64_in, IntWalk.u8_in, h5]) (by simp (disch := omega) only [go_sem, ↓IntWalk.iteOmega, IntWalk.toNatUp, Nat.reduceEqDiff, Nat.reduceAdd, Nat.reduceMul, Nat.reduceSub, Nat.reduceLT, Nat.reduceLeDiff, Int.reduceToNat, Int.reduceLT, Int.reduceLE, Int.reduceEq, Int.reduceAdd, Int.reduceSub, Int.reduceMul, Int.toNat_natCast, reduceCtorEq, decide_true, decide_false, IntWalk.i64_in, IntWalk.u64_in, IntWalk.u8_in, h4]) ho4 (by simp (disch := omega) only [go_sem, ↓IntWalk.iteOmega, IntWalk.toNatUp, Nat.reduceEqDiff, Nat.reduceAdd, Nat.reduceMul, Nat.reduceSub, Nat.reduceLT, Nat.reduceLeDiff, Int.reduceToNat, Int.reduceLT, Int.reduceLE, Int.reduceEq, Int.reduceAdd, Int.reduceSub, Int.reduceMul, Int.toNat_natCast, reduceCtorEq, decide_true, decide_false, IntWalk.i64_in, IntWalk.u64_in, IntWalk.u8_in, h8]) (by simp (disch := omega) only [go_sem, ↓IntWalk.iteOmega, IntWalk.toNatUp, Nat.reduceEqDiff, Nat.reduceAdd, Nat.reduceMul, Nat.reduceSub, Nat.reduceLT, Nat.reduceLeDiff, Int.reduceToNat, Int.reduceLT, Int.reduceLE, Int.reduceEq, Int.reduceAdd, Int.reduceSub, Int.reduceMul, Int.toNat_natCast, reduceCtorEq, decide_true, decide_false, IntWalk.i64_in, IntWalk.u64_in, IntWalk.u8_in, h9]) hkp
end Go.Proofs.Ytfmijoglolecgaa.A
/- The builder: repeat's walk. -/
namespace Go.Proofs.Ytfmijoglolecgaa.A
open Go
set_option maxRecDepth 20000
theorem bPartL_rep (x : Nd) (n : Nat) : bPartL (List.replicate n x) = List.replicate n (bPart x) := by
  induction n with
  | zero => rw [List.replicate_zero, bPartL]; rfl
  | succ n ih => rw [List.replicate_succ, bPartL, ih, List.replicate_succ]
theorem okNs_rep {x : Nd} (h : okN x = true) (n : Nat) : okNs (List.replicate n x) = true := by
  induction n with
  | zero => rw [List.replicate_zero, okNs]
  | succ n ih => rw [List.replicate_succ, okNs, h, ih]; rfl
theorem hNs_rep (x : Nd) (n : Nat) : hNs (List.replicate n x) ≤ hN x := by
  induction n with
  | zero => rw [List.replicate_zero, hNs]; omega
  | succ n ih => rw [List.replicate_succ, hNs]; omega
theorem rep_rest {cr : CallR} (hF : cr 26 = cRel RFree) {kind set lo hi n0 e : Int} {x : Nd} {l : List Nd} {t r : Nat} {o0 : Ob} {nx0 : Nat} {T b : BS} {p : List (Int × Int)} {vp : AV} {a : AAct} {o : Ob} {nx : Nat} {Q : WPost} (hlo : 0 ≤ lo ∧ lo ≤ 10) (hlen : p.length ≤ 10) (hr : nx0 ≤ r) (hrn : r < nx) (hnx : nx0 ≤ nx) (hB : BAt o nx t b) (hT : b.frees (rLinks lo e 0 p ++ (if lo = 0 then [(n0, e)] else [])) = T) (hbf : b.f.length ≤ 1000000) (hp : HS 51 2 21 o nx vp p.length (cP p)) (h3 : a 3 = .ptr (r, 3) (r, 3) 0) (ho3 : o (r, 3) = some (.row ⟨28, 1, (r, 3), false, true, cNd (.mk kind set lo hi (x :: l))⟩)) (h7 : a 7 = vp) (h52 : a 52 = vp) (h53 : a 53 = .int .i64 p.length) (h54 : a 54 = .int .i64 0)
    (hmore : a 0 = bp t ∧ a 5 = .int .i64 n0 ∧ a 4 = .ptr (r, 4) (r, 4) 0 ∧ o (r, 4) = some (.row ⟨51, 1, (r, 4), false, true, [.int .i64 0, .int .i64 0]⟩) ∧ a 8 = .int .i64 e ∧ a 9 = .fn (.func 26) [bp t] [] ∧ BKeep t o0 nx0 o)
    (hQ : ∀ a o nx, nx0 ≤ nx → BAt o nx t T → a 4 = .ptr (r, 4) (r, 4) 0 → o (r, 4) = some (.row ⟨51, 1, (r, 4), false, true, [.int .i64 n0, .int .i64 e]⟩) → BKeep t o0 nx0 o → Q .ret a o nx) :
    WP (EX md0 (fun _ _ => none)) cr 30 (fun _ => none) (pathC [1, 1, 1, 1, 1, 1, 1, 1, 1, 0, 1, 0] (Try.f29.body.getD .skip)) a o nx (blockQ 2 (thenQ (EX md0 (fun _ _ => none)) cr 30 (fun _ => none) (pathC [1, 1, 1, 1, 1, 1, 1, 1, 1, 1] (Try.f29.body.getD .skip)) Q)) := by
  obtain ⟨h0, h5, h4, ho4, h8, h9, hkp⟩ := hmore
  rw [frees_app] at hT
  obtain ⟨b1, hb1⟩ : ∃ b1, b1 = b.frees (rLinks lo e 0 p) := ⟨_, rfl⟩
  have hl1 : b1.f.length ≤ 1000030 := by
    have := rLinks_len lo e 0 p
    rw [hb1]; show (b.f ++ _).length ≤ _
    rw [List.length_append]; omega
  rw [← hb1] at hT
  refine rep_loop2 hF hlo hlen hr hrn hnx hB hb1.symm hbf hp h3 ho3 h7 h52 h53 h54 ⟨h0, h5, h4, ho4, h8, h9, hkp⟩ ?_
  clear h3 h7 h52 h53 h54 h0 h5 h4 h8 h9 ho3 ho4 hkp hp hB
  clear hnx hrn
  intro a o nx hnx hrn' h3 ho3 hB h0 h5 h4 ho4 h8 h9 hkp
  rw [cNd_mk] at ho3
  have hs4 : ∀ (o : Ob) y i j, j ≠ 4 → upd o (r, 4) y (i, j) = o (i, j) := fun o y i j hj => by simp [upd_app, hj]
  have hn4 : ∀ (o : Ob) y i j, i < nx0 → upd o (r, 4) y (i, j) = o (i, j) := fun o y i j hi => by
    have : i ≠ r := by omega
    simp [upd_app, this]
  simp only [Try.f29, Option.getD_some, pathC]
  by_cases hz : lo = 0
  · rw [if_pos hz, frees_cons, frees_nil] at hT
    simp (disch := omega) only [go_sem, ↓IntWalk.iteOmega, IntWalk.toNatUp, Nat.reduceEqDiff, Nat.reduceAdd, Nat.reduceMul, Nat.reduceSub, Nat.reduceLT, Nat.reduceLeDiff, Int.reduceToNat, Int.reduceLT, Int.reduceLE, Int.reduceEq, Int.reduceAdd, Int.reduceSub, Int.reduceMul, Int.toNat_natCast, reduceCtorEq, decide_true, decide_false, IntWalk.i64_in, IntWalk.u64_in, IntWalk.u8_in, h0, h3, h4, h5, h8, h9, ho3, hF, hz]
    refine free_call (hB.new (fun _ _ _ => rfl) (by omega)) _ _ (by omega) ?_
    intro o1 nx1 hle1 hB1 hk1
    have k1 : BKeep t o nx o1 := fun i j (hi : i < nx) => hk1 i j (by omega)
    have ho41 := k1.row ho4 hrn' (fun e => absurd e (by decide)) (by decide) (by decide)
    simp (disch := omega) only [go_sem, ↓IntWalk.iteOmega, IntWalk.toNatUp, Nat.reduceEqDiff, Nat.reduceAdd, Nat.reduceMul, Nat.reduceSub, Nat.reduceLT, Nat.reduceLeDiff, Int.reduceToNat, Int.reduceLT, Int.reduceLE, Int.reduceEq, Int.reduceAdd, Int.reduceSub, Int.reduceMul, Int.toNat_natCast, reduceCtorEq, decide_true, decide_false, IntWalk.i64_in, IntWalk.u64_in, IntWalk.u8_in, h0, h3, h4, h5, h8, h9, ho3, hF, hz, ho41]
    exact hQ _ _ _ (by omega) (hT ▸ hB1.slot2 (fun i j hj => hs4 o1 _ i j (by omega)) (by omega)) (by simp (disch := omega) only [go_sem, ↓IntWalk.iteOmega, IntWalk.toNatUp, Nat.reduceEqDiff, Nat.reduceAdd, Nat.reduceMul, Nat.reduceSub, Nat.reduceLT, Nat.reduceLeDiff, Int.reduceToNat, Int.reduceLT, Int.reduceLE, Int.reduceEq, Int.reduceAdd, Int.reduceSub, Int.reduceMul, Int.toNat_natCast, reduceCtorEq, decide_true, decide_false, IntWalk.i64_in, IntWalk.u64_in, IntWalk.u8_in, h4]) (upd_same _ _ _) ((hkp.trans k1 hnx).trans (fun i j hi _ _ _ => hn4 o1 _ i j hi) (by omega))
  · rw [if_neg hz, frees_nil] at hT
    simp (disch := omega) only [go_sem, ↓IntWalk.iteOmega, IntWalk.toNatUp, Nat.reduceEqDiff, Nat.reduceAdd, Nat.reduceMul, Nat.reduceSub, Nat.reduceLT, Nat.reduceLeDiff, Int.reduceToNat, Int.reduceLT, Int.reduceLE, Int.reduceEq, Int.reduceAdd, Int.reduceSub, Int.reduceMul, Int.toNat_natCast, reduceCtorEq, decide_true, decide_false, IntWalk.i64_in, IntWalk.u64_in, IntWalk.u8_in, h0, h3, h4, h5, h8, h9, ho3, hF, hz, ho4]
    exact hQ _ _ _ (by omega) (hT ▸ hB.slot2 (fun i j hj => hs4 o _ i j (by omega)) (by omega)) (by simp (disch := omega) only [go_sem, ↓IntWalk.iteOmega, IntWalk.toNatUp, Nat.reduceEqDiff, Nat.reduceAdd, Nat.reduceMul, Nat.reduceSub, Nat.reduceLT, Nat.reduceLeDiff, Int.reduceToNat, Int.reduceLT, Int.reduceLE, Int.reduceEq, Int.reduceAdd, Int.reduceSub, Int.reduceMul, Int.toNat_natCast, reduceCtorEq, decide_true, decide_false, IntWalk.i64_in, IntWalk.u64_in, IntWalk.u8_in, h4]) (upd_same _ _ _) (hkp.trans (fun i j hi _ _ _ => hn4 o _ i j hi) (by omega))
theorem rep_mid {cr : CallR} (hF : cr 26 = cRel RFree) {kind set lo hi : Int} {x : Nd} {l : List Nd} {t nx nx5 : Nat} {o o5 : Ob} {T b : BS} {r : List (Int × Int) × BS} {v3 : AV} {a : AAct} {Q : WPost} (hlo : 0 ≤ lo ∧ lo ≤ 10) (b3 : r.1.length ≤ 10) (htn : t < nx) (hle : nx < nx5) (hB5 : BAt o5 nx5 t r.2.state) (hbr : r.2.state.frees (headL b.n r.1 ++ rLinks lo r.2.n 0 r.1 ++ (if lo = 0 then [((b.n : Int), (r.2.n : Int))] else [])) = T) (hbf : r.2.state.f.length ≤ 900000) (hv5 : HS 51 2 21 o5 nx5 v3 r.1.length (cP r.1)) (ha3 : a 3 = .ptr (nx, 3) (nx, 3) 0) (hx3'' : o5 (nx, 3) = some (.row ⟨28, 1, (nx, 3), false, true, cNd (.mk kind set lo hi (x :: l))⟩)) (ha7 : a 7 = v3)
    (ha0 : a 0 = bp t) (ha5 : a 5 = .int .i64 b.n) (ha4 : a 4 = .ptr (nx, 4) (nx, 4) 0) (hx4' : o5 (nx, 4) = some (.row ⟨51, 1, (nx, 4), false, true, [.int .i64 0, .int .i64 0]⟩)) (ha8 : a 8 = .int .i64 r.2.n) (k05 : BKeep t o nx o5)
    (hfin : ∀ a o' nx', nx ≤ nx' → BAt o' nx' t T → a 4 = .ptr (nx, 4) (nx, 4) 0 → o' (nx, 4) = some (.row ⟨51, 1, (nx, 4), false, true, [.int .i64 b.n, .int .i64 r.2.n]⟩) → BKeep t o nx o' → Q .ret a o' nx') :
    WP (EX md0 (fun _ _ => none)) cr 30 (fun _ => none) (pathC [1, 1, 1, 1, 1, 1, 1] (Try.f29.body.getD .skip)) a o5 nx5 Q := by
  simp only [Try.f29, Option.getD_some, pathC]
  have hT0 : headL (b.n : Int) r.1 = [] ∧ r.1 = [] ∨ ∃ p0 pl, r.1 = p0 :: pl ∧ headL (b.n : Int) r.1 = [((b.n : Int), p0.1)] := by
    cases r.1 with
    | nil => exact .inl ⟨rfl, rfl⟩
    | cons p0 pl => exact .inr ⟨p0, pl, rfl, rfl⟩
  rcases hT0 with ⟨q1, q2⟩ | ⟨p0, pl, q1, q2⟩
  · rw [q1, List.nil_append] at hbr
    rcases hv5 with ⟨rfl, _, _⟩ | ⟨i1, g1, rfl, hi1, hrow, hlen'⟩
    · simp (disch := omega) only [go_sem, ↓IntWalk.iteOmega, IntWalk.toNatUp, Nat.reduceEqDiff, Nat.reduceAdd, Nat.reduceMul, Nat.reduceSub, Nat.reduceLT, Nat.reduceLeDiff, Int.reduceToNat, Int.reduceLT, Int.reduceLE, Int.reduceEq, Int.reduceAdd, Int.reduceSub, Int.reduceMul, Int.toNat_natCast, reduceCtorEq, decide_true, decide_false, IntWalk.i64_in, IntWalk.u64_in, IntWalk.u8_in, ha0, ha3, ha4, ha5, ha7, ha8]
      refine rep_rest hF hlo b3 (Nat.le_refl nx) (by omega) (by omega) (hB5.new (fun _ _ _ => rfl) (by omega)) hbr (by omega) (.inl ⟨rfl, by rw [q2]; rfl, by rw [q2]; rfl⟩) (by simp (disch := omega) only [go_sem, ↓IntWalk.iteOmega, IntWalk.toNatUp, Nat.reduceEqDiff, Nat.reduceAdd, Nat.reduceMul, Nat.reduceSub, Nat.reduceLT, Nat.reduceLeDiff, Int.reduceToNat, Int.reduceLT, Int.reduceLE, Int.reduceEq, Int.reduceAdd, Int.reduceSub, Int.reduceMul, Int.toNat_natCast, reduceCtorEq, decide_true, decide_false, IntWalk.i64_in, IntWalk.u64_in, IntWalk.u8_in, ha3]) hx3'' (by simp (disch := omega) only [go_sem, ↓IntWalk.iteOmega, IntWalk.toNatUp, Nat.reduceEqDiff, Nat.reduceAdd, Nat.reduceMul, Nat.reduceSub, Nat.reduceLT, Nat.reduceLeDiff, Int.reduceToNat, Int.reduceLT, Int.reduceLE, Int.reduceEq, Int.reduceAdd, Int.reduceSub, Int.reduceMul, Int.toNat_natCast, reduceCtorEq, decide_true, decide_false, IntWalk.i64_in, IntWalk.u64_in, IntWalk.u8_in, ha7]) (by simp (disch := omega) only [go_sem, ↓IntWalk.iteOmega, IntWalk.toNatUp, Nat.reduceEqDiff, Nat.reduceAdd, Nat.reduceMul, Nat.reduceSub, Nat.reduceLT, Nat.reduceLeDiff, Int.reduceToNat, Int.reduceLT, Int.reduceLE, Int.reduceEq, Int.reduceAdd, Int.reduceSub, Int.reduceMul, Int.toNat_natCast, reduceCtorEq, decide_true, decide_false, IntWalk.i64_in, IntWalk.u64_in, IntWalk.u8_in]) (by rw [q2]; simp (disch := omega) only [go_sem, ↓IntWalk.iteOmega, IntWalk.toNatUp, Nat.reduceEqDiff, Nat.reduceAdd, Nat.reduceMul, Nat.reduceSub, Nat.reduceLT, Nat.reduceLeDiff, Int.reduceToNat, Int.reduceLT, Int.reduceLE, Int.reduceEq, Int.reduceAdd, Int.reduceSub, Int.reduceMul, Int.toNat_natCast, reduceCtorEq, decide_true, decide_false, IntWalk.i64_in, IntWalk.u64_in, IntWalk.u8_in]) (by simp (disch := omega) only [go_sem, ↓IntWalk.iteOmega, IntWalk.toNatUp, Nat.reduceEqDiff, Nat.reduceAdd, Nat.reduceMul, Nat.reduceSub, Nat.reduceLT, Nat.reduceLeDiff, Int.reduceToNat, Int.reduceLT, Int.reduceLE, Int.reduceEq, Int.reduceAdd, Int.reduceSub, Int.reduceMul, Int.toNat_natCast, reduceCtorEq, decide_true, decide_false, IntWalk.i64_in, IntWalk.u64_in, IntWalk.u8_in]) ⟨by simp (disch := omega) only [go_sem, ↓IntWalk.iteOmega, IntWalk.toNatUp, Nat.reduceEqDiff, Nat.reduceAdd, Nat.reduceMul, Nat.reduceSub, Nat.reduceLT, Nat.reduceLeDiff, Int.reduceToNat, Int.reduceLT, Int.reduceLE, Int.reduceEq, Int.reduceAdd, Int.reduceSub, Int.reduceMul, Int.toNat_natCast, reduceCtorEq, decide_true, decide_false, IntWalk.i64_in, IntWalk.u64_in, IntWalk.u8_in, ha0], by simp (disch := omega) only [go_sem, ↓IntWalk.iteOmega, IntWalk.toNatUp, Nat.reduceEqDiff, Nat.reduceAdd, Nat.reduceMul, Nat.reduceSub, Nat.reduceLT, Nat.reduceLeDiff, Int.reduceToNat, Int.reduceLT, Int.reduceLE, Int.reduceEq, Int.reduceAdd, Int.reduceSub, Int.reduceMul, Int.toNat_natCast, reduceCtorEq, decide_true, decide_false, IntWalk.i64_in, IntWalk.u64_in, IntWalk.u8_in, ha5], by simp (disch := omega) only [go_sem, ↓IntWalk.iteOmega, IntWalk.toNatUp, Nat.reduceEqDiff, Nat.reduceAdd, Nat.reduceMul, Nat.reduceSub, Nat.reduceLT, Nat.reduceLeDiff, Int.reduceToNat, Int.reduceLT, Int.reduceLE, Int.reduceEq, Int.reduceAdd, Int.reduceSub, Int.reduceMul, Int.toNat_natCast, reduceCtorEq, decide_true, decide_false, IntWalk.i64_in, IntWalk.u64_in, IntWalk.u8_in, ha4], hx4', by simp (disch := omega) only [go_sem, ↓IntWalk.iteOmega, IntWalk.toNatUp, Nat.reduceEqDiff, Nat.reduceAdd, Nat.reduceMul, Nat.reduceSub, Nat.reduceLT, Nat.reduceLeDiff, Int.reduceToNat, Int.reduceLT, Int.reduceLE, Int.reduceEq, Int.reduceAdd, Int.reduceSub, Int.reduceMul, Int.toNat_natCast, reduceCtorEq, decide_true, decide_false, IntWalk.i64_in, IntWalk.u64_in, IntWalk.u8_in, ha8], by simp (disch := omega) only [go_sem, ↓IntWalk.iteOmega, IntWalk.toNatUp, Nat.reduceEqDiff, Nat.reduceAdd, Nat.reduceMul, Nat.reduceSub, Nat.reduceLT, Nat.reduceLeDiff, Int.reduceToNat, Int.reduceLT, Int.reduceLE, Int.reduceEq, Int.reduceAdd, Int.reduceSub, Int.reduceMul, Int.toNat_natCast, reduceCtorEq, decide_true, decide_false, IntWalk.i64_in, IntWalk.u64_in, IntWalk.u8_in, ha0], k05⟩ hfin
    · have hz : ¬ (0 : Int) < r.1.length := by rw [q2]; decide
      simp (disch := omega) only [go_sem, ↓IntWalk.iteOmega, IntWalk.toNatUp, Nat.reduceEqDiff, Nat.reduceAdd, Nat.reduceMul, Nat.reduceSub, Nat.reduceLT, Nat.reduceLeDiff, Int.reduceToNat, Int.reduceLT, Int.reduceLE, Int.reduceEq, Int.reduceAdd, Int.reduceSub, Int.reduceMul, Int.toNat_natCast, reduceCtorEq, decide_true, decide_false, IntWalk.i64_in, IntWalk.u64_in, IntWalk.u8_in, ha0, ha3, ha4, ha5, ha7, ha8, hz]
      refine rep_rest hF hlo b3 (Nat.le_refl nx) (by omega) (by omega) (hB5.new (fun _ _ _ => rfl) (by omega)) hbr (by omega) (.inr ⟨i1, g1, rfl, by omega, hrow, hlen'⟩) (by simp (disch := omega) only [go_sem, ↓IntWalk.iteOmega, IntWalk.toNatUp, Nat.reduceEqDiff, Nat.reduceAdd, Nat.reduceMul, Nat.reduceSub, Nat.reduceLT, Nat.reduceLeDiff, Int.reduceToNat, Int.reduceLT, Int.reduceLE, Int.reduceEq, Int.reduceAdd, Int.reduceSub, Int.reduceMul, Int.toNat_natCast, reduceCtorEq, decide_true, decide_false, IntWalk.i64_in, IntWalk.u64_in, IntWalk.u8_in, ha3]) hx3'' (by simp (disch := omega) only [go_sem, ↓IntWalk.iteOmega, IntWalk.toNatUp, Nat.reduceEqDiff, Nat.reduceAdd, Nat.reduceMul, Nat.reduceSub, Nat.reduceLT, Nat.reduceLeDiff, Int.reduceToNat, Int.reduceLT, Int.reduceLE, Int.reduceEq, Int.reduceAdd, Int.reduceSub, Int.reduceMul, Int.toNat_natCast, reduceCtorEq, decide_true, decide_false, IntWalk.i64_in, IntWalk.u64_in, IntWalk.u8_in, ha7]) (by simp (disch := omega) only [go_sem, ↓IntWalk.iteOmega, IntWalk.toNatUp, Nat.reduceEqDiff, Nat.reduceAdd, Nat.reduceMul, Nat.reduceSub, Nat.reduceLT, Nat.reduceLeDiff, Int.reduceToNat, Int.reduceLT, Int.reduceLE, Int.reduceEq, Int.reduceAdd, Int.reduceSub, Int.reduceMul, Int.toNat_natCast, reduceCtorEq, decide_true, decide_false, IntWalk.i64_in, IntWalk.u64_in, IntWalk.u8_in]) (by simp (disch := omega) only [go_sem, ↓IntWalk.iteOmega, IntWalk.toNatUp, Nat.reduceEqDiff, Nat.reduceAdd, Nat.reduceMul, Nat.reduceSub, Nat.reduceLT, Nat.reduceLeDiff, Int.reduceToNat, Int.reduceLT, Int.reduceLE, Int.reduceEq, Int.reduceAdd, Int.reduceSub, Int.reduceMul, Int.toNat_natCast, reduceCtorEq, decide_true, decide_false, IntWalk.i64_in, IntWalk.u64_in, IntWalk.u8_in]) (by simp (disch := omega) only [go_sem, ↓IntWalk.iteOmega, IntWalk.toNatUp, Nat.reduceEqDiff, Nat.reduceAdd, Nat.reduceMul, Nat.reduceSub, Nat.reduceLT, Nat.reduceLeDiff, Int.reduceToNat, Int.reduceLT, Int.reduceLE, Int.reduceEq, Int.reduceAdd, Int.reduceSub, Int.reduceMul, Int.toNat_natCast, reduceCtorEq, decide_true, decide_false, IntWalk.i64_in, IntWalk.u64_in, IntWalk.u8_in]) ⟨by simp (disch := omega) only [go_sem, ↓IntWalk.iteOmega, IntWalk.toNatUp, Nat.reduceEqDiff, Nat.reduceAdd, Nat.reduceMul, Nat.reduceSub, Nat.reduceLT, Nat.reduceLeDiff, Int.reduceToNat, Int.reduceLT, Int.reduceLE, Int.reduceEq, Int.reduceAdd, Int.reduceSub, Int.reduceMul, Int.toNat_natCast, reduceCtorEq, decide_true, decide_false, IntWalk.i64_in, IntWalk.u64_in, IntWalk.u8_in, ha0], by simp (disch := omega) only [go_sem, ↓IntWalk.iteOmega, IntWalk.toNatUp, Nat.reduceEqDiff, Nat.reduceAdd, Nat.reduceMul, Nat.reduceSub, Nat.reduceLT, Nat.reduceLeDiff, Int.reduceToNat, Int.reduceLT, Int.reduceLE, Int.reduceEq, Int.reduceAdd, Int.reduceSub, Int.reduceMul, Int.toNat_natCast, reduceCtorEq, decide_true, decide_false, IntWalk.i64_in, IntWalk.u64_in, IntWalk.u8_in, ha5], by simp (disch := omega) only [go_sem, ↓IntWalk.iteOmega, IntWalk.toNatUp, Nat.reduceEqDiff, Nat.reduceAdd, Nat.reduceMul, Nat.reduceSub, Nat.reduceLT, Nat.reduceLeDiff, Int.reduceToNat, Int.reduceLT, Int.reduceLE, Int.reduceEq, Int.reduceAdd, Int.reduceSub, Int.reduceMul, Int.toNat_natCast, reduceCtorEq, decide_true, decide_false, IntWalk.i64_in, IntWalk.u64_in, IntWalk.u8_in, ha4], hx4', by simp (disch := omega) only [go_sem, ↓IntWalk.iteOmega, IntWalk.toNatUp, Nat.reduceEqDiff, Nat.reduceAdd, Nat.reduceMul, Nat.reduceSub, Nat.reduceLT, Nat.reduceLeDiff, Int.reduceToNat, Int.reduceLT, Int.reduceLE, Int.reduceEq, Int.reduceAdd, Int.reduceSub, Int.reduceMul, Int.toNat_natCast, reduceCtorEq, decide_true, decide_false, IntWalk.i64_in, IntWalk.u64_in, IntWalk.u8_in, ha8], by simp (disch := omega) only [go_sem, ↓IntWalk.iteOmega, IntWalk.toNatUp, Nat.reduceEqDiff, Nat.reduceAdd, Nat.reduceMul, Nat.reduceSub, Nat.reduceLT, Nat.reduceLeDiff, Int.reduceToNat, Int.reduceLT, Int.reduceLE, Int.reduceEq, Int.reduceAdd, Int.reduceSub, Int.reduceMul, Int.toNat_natCast, reduceCtorEq, decide_true, decide_false, IntWalk.i64_in, IntWalk.u64_in, IntWalk.u8_in, ha0], k05⟩ hfin
  · rw [q2, List.append_assoc, List.singleton_append, frees_cons] at hbr
    rcases hv5 with ⟨rfl, e, _⟩ | ⟨i1, g1, rfl, hi1, hrow, hlen'⟩
    · rw [q1] at e; simp at e
    · have hz : (0 : Int) < r.1.length := by rw [q1]; simp
      have hat : cP r.1 = .int .i64 p0.1 :: .int .i64 p0.2 :: cP pl := by rw [q1]; rfl
      simp (disch := omega) only [go_sem, ↓IntWalk.iteOmega, IntWalk.toNatUp, Nat.reduceEqDiff, Nat.reduceAdd, Nat.reduceMul, Nat.reduceSub, Nat.reduceLT, Nat.reduceLeDiff, Int.reduceToNat, Int.reduceLT, Int.reduceLE, Int.reduceEq, Int.reduceAdd, Int.reduceSub, Int.reduceMul, Int.toNat_natCast, reduceCtorEq, decide_true, decide_false, IntWalk.i64_in, IntWalk.u64_in, IntWalk.u8_in, ha0, ha3, ha4, ha5, ha7, ha8, hz, hrow, hat, hF]
      refine free_call (hB5.new (fun _ _ _ => rfl) (by omega)) _ _ (by omega) ?_
      intro o6 nx6 hle6 hB6 k6
      have k06 : BKeep t o nx o6 := k05.trans (fun i j (hi : i < nx5) => k6 i j (by omega)) (by omega)
      have hx36 := k6.row hx3'' (by omega) (fun e => absurd e (by decide)) (by decide) (by decide)
      have hx46 := k6.row hx4' (by omega) (fun e => absurd e (by decide)) (by decide) (by decide)
      have hrow6 := k6.row hrow (by omega) (fun e => absurd e (by decide)) (by decide) (by decide)
      simp (disch := omega) only [go_sem, ↓IntWalk.iteOmega, IntWalk.toNatUp, Nat.reduceEqDiff, Nat.reduceAdd, Nat.reduceMul, Nat.reduceSub, Nat.reduceLT, Nat.reduceLeDiff, Int.reduceToNat, Int.reduceLT, Int.reduceLE, Int.reduceEq, Int.reduceAdd, Int.reduceSub, Int.reduceMul, Int.toNat_natCast, reduceCtorEq, decide_true, decide_false, IntWalk.i64_in, IntWalk.u64_in, IntWalk.u8_in, ha0, ha3, ha4, ha5, ha7, ha8, hz, hrow, hat, hF]
      refine rep_rest hF hlo b3 (Nat.le_refl nx) (by omega) (by omega) (hB6.new (fun _ _ _ => rfl) (by omega)) hbr (by simp only [BS.free_f, List.length_append, List.length_cons, List.length_nil]; omega) (.inr ⟨i1, g1, rfl, by omega, hrow6, hlen'⟩) (by simp (disch := omega) only [go_sem, ↓IntWalk.iteOmega, IntWalk.toNatUp, Nat.reduceEqDiff, Nat.reduceAdd, Nat.reduceMul, Nat.reduceSub, Nat.reduceLT, Nat.reduceLeDiff, Int.reduceToNat, Int.reduceLT, Int.reduceLE, Int.reduceEq, Int.reduceAdd, Int.reduceSub, Int.reduceMul, Int.toNat_natCast, reduceCtorEq, decide_true, decide_false, IntWalk.i64_in, IntWalk.u64_in, IntWalk.u8_in, ha3]) hx36 (by simp (disch := omega) only [go_sem, ↓IntWalk.iteOmega, IntWalk.toNatUp, Nat.reduceEqDiff, Nat.reduceAdd, Nat.reduceMul, Nat.reduceSub, Nat.reduceLT, Nat.reduceLeDiff, Int.reduceToNat, Int.reduceLT, Int.reduceLE, Int.reduceEq, Int.reduceAdd, Int.reduceSub, Int.reduceMul, Int.toNat_natCast, reduceCtorEq, decide_true, decide_false, IntWalk.i64_in, IntWalk.u64_in, IntWalk.u8_in, ha7]) (by simp (disch := omega) only [go_sem, ↓IntWalk.iteOmega, IntWalk.toNatUp, Nat.reduceEqDiff, Nat.reduceAdd, Nat.reduceMul, Nat.reduceSub, Nat.reduceLT, Nat.reduceLeDiff, Int.reduceToNat, Int.reduceLT, Int.reduceLE, Int.reduceEq, Int.reduceAdd, Int.reduceSub, Int.reduceMul, Int.toNat_natCast, reduceCtorEq, decide_true, decide_false, IntWalk.i64_in, IntWalk.u64_in, IntWalk.u8_in]) (by simp (disch := omega) only [go_sem, ↓IntWalk.iteOmega, IntWalk.toNatUp, Nat.reduceEqDiff, Nat.reduceAdd, Nat.reduceMul, Nat.reduceSub, Nat.reduceLT, Nat.reduceLeDiff, Int.reduceToNat, Int.reduceLT, Int.reduceLE, Int.reduceEq, Int.reduceAdd, Int.reduceSub, Int.reduceMul, Int.toNat_natCast, reduceCtorEq, decide_true, decide_false, IntWalk.i64_in, IntWalk.u64_in, IntWalk.u8_in]) (by simp (disch := omega) only [go_sem, ↓IntWalk.iteOmega, IntWalk.toNatUp, Nat.reduceEqDiff, Nat.reduceAdd, Nat.reduceMul, Nat.reduceSub, Nat.reduceLT, Nat.reduceLeDiff, Int.reduceToNat, Int.reduceLT, Int.reduceLE, Int.reduceEq, Int.reduceAdd, Int.reduceSub, Int.reduceMul, Int.toNat_natCast, reduceCtorEq, decide_true, decide_false, IntWalk.i64_in, IntWalk.u64_in, IntWalk.u8_in]) ⟨by simp (disch := omega) only [go_sem, ↓IntWalk.iteOmega, IntWalk.toNatUp, Nat.reduceEqDiff, Nat.reduceAdd, Nat.reduceMul, Nat.reduceSub, Nat.reduceLT, Nat.reduceLeDiff, Int.reduceToNat, Int.reduceLT, Int.reduceLE, Int.reduceEq, Int.reduceAdd, Int.reduceSub, Int.reduceMul, Int.toNat_natCast, reduceCtorEq, decide_true, decide_false, IntWalk.i64_in, IntWalk.u64_in, IntWalk.u8_in, ha0], by simp (disch := omega) only [go_sem, ↓IntWalk.iteOmega, IntWalk.toNatUp, Nat.reduceEqDiff, Nat.reduceAdd, Nat.reduceMul, Nat.reduceSub, Nat.reduceLT, Nat.reduceLeDiff, Int.reduceToNat, Int.reduceLT, Int.reduceLE, Int.reduceEq, Int.reduceAdd, Int.reduceSub, Int.reduceMul, Int.toNat_natCast, reduceCtorEq, decide_true, decide_false, IntWalk.i64_in, IntWalk.u64_in, IntWalk.u8_in, ha5], by simp (disch := omega) only [go_sem, ↓IntWalk.iteOmega, IntWalk.toNatUp, Nat.reduceEqDiff, Nat.reduceAdd, Nat.reduceMul, Nat.reduceSub, Nat.reduceLT, Nat.reduceLeDiff, Int.reduceToNat, Int.reduceLT, Int.reduceLE, Int.reduceEq, Int.reduceAdd, Int.reduceSub, Int.reduceMul, Int.toNat_natCast, reduceCtorEq, decide_true, decide_false, IntWalk.i64_in, IntWalk.u64_in, IntWalk.u8_in, ha4], hx46, by simp (disch := omega) only [go_sem, ↓IntWalk.iteOmega, IntWalk.toNatUp, Nat.reduceEqDiff, Nat.reduceAdd, Nat.reduceMul, Nat.reduceSub, Nat.reduceLT, Nat.reduceLeDiff, Int.reduceToNat, Int.reduceLT, Int.reduceLE, Int.reduceEq, Int.reduceAdd, Int.reduceSub, Int.reduceMul, Int.toNat_natCast, reduceCtorEq, decide_true, decide_false, IntWalk.i64_in, IntWalk.u64_in, IntWalk.u8_in, ha8], by simp (disch := omega) only [go_sem, ↓IntWalk.iteOmega, IntWalk.toNatUp, Nat.reduceEqDiff, Nat.reduceAdd, Nat.reduceMul, Nat.reduceSub, Nat.reduceLT, Nat.reduceLeDiff, Int.reduceToNat, Int.reduceLT, Int.reduceLE, Int.reduceEq, Int.reduceAdd, Int.reduceSub, Int.reduceMul, Int.toNat_natCast, reduceCtorEq, decide_true, decide_false, IntWalk.i64_in, IntWalk.u64_in, IntWalk.u8_in, ha0], k06⟩ hfin
theorem rep_ok {kind set lo hi : Int} {x : Nd} {l : List Nd} (hk : okN x = true) (hlo : 0 ≤ lo ∧ lo ≤ 10) (hhi : 0 ≤ hi ∧ hi ≤ 10) (hpart : ∀ t o nx b, BAt o nx t b → Pre (hN x) b → ∃ v H', RPartB [bp t, nodeV x] ⟨o, nx⟩ v H') {t : Nat} {o : Ob} {nx : Nat} {b : BS} (h : BAt o nx t b) (hp : Pre (hN x + 1) b) (hh : hN x ≤ 1000) :
    ∃ v H', RRep [bp t, nodeV (.mk kind set lo hi (x :: l))] ⟨o, nx⟩ v H' := by
  obtain ⟨cr, hcr⟩ : ∃ cr, cr = tabLookR [(27, cRel RState), (26, cRel RFree), (16, cRel RFull), (25, cRel RParts)] := ⟨_, rfl⟩
  have hS : cr 27 = cRel RState := by rw [hcr]; rfl
  have hF : cr 26 = cRel RFree := by rw [hcr]; rfl
  have hU : cr 16 = cRel RFull := by rw [hcr]; rfl
  have hP : cr 25 = cRel RParts := by rw [hcr]; rfl
  obtain ⟨nd, hnd⟩ : ∃ nd, nd = Nd.mk kind set lo hi (x :: l) := ⟨_, rfl⟩
  have hcn : cNd nd = [.int .i64 kind, .int .i64 set, .int .i64 lo, .int .i64 hi, slN (x :: l)] := by rw [hnd, cNd_mk]
  obtain ⟨v, H', h1, h2⟩ := okR_of_WP (E := EX md0 (fun _ _ => none)) (cr := cr) (cp_none _) (hcr ▸ crRep_ok) mixed (k := 30) (args := [bp t, nodeV nd]) (o := o) (nx := nx) (Post := fun v o' nx' => v = bE (bRepeat lo hi.toNat (bPart x) b).1 ∧ BTo t (bRepeat lo hi.toNat (bPart x) b).2 ⟨o, nx⟩ ⟨o', nx'⟩) Try.func29 (lookRep _) rfl (by
    clear hcr
    simp only [Try.f29, Option.getD_some]
    have hnew : ∀ y z, ∀ i j, i < nx → upd (upd o (nx, 3) y) (nx, 4) z (i, j) = o (i, j) := fun y z i j hi => by simp (disch := omega) only [upd_fst]
    have e1 : b.state.n = b.n + 1 := rfl
    have e2 : b.state.f.length = b.f.length := rfl
    have e3 : b.state.s.length = b.s.length := rfl
    have hp1 := hp.f
    have hp2 := hp.s
    have hp3 := hp.n
    have htn : t < nx := by obtain ⟨vS, vF, h⟩ := h; exact h.lt
    simp (disch := omega) only [go_sem, ↓IntWalk.iteOmega, IntWalk.toNatUp, Nat.reduceEqDiff, Nat.reduceAdd, Nat.reduceMul, Nat.reduceSub, Nat.reduceLT, Nat.reduceLeDiff, Int.reduceToNat, Int.reduceLT, Int.reduceLE, Int.reduceEq, Int.reduceAdd, Int.reduceSub, Int.reduceMul, Int.toNat_natCast, reduceCtorEq, decide_true, decide_false, IntWalk.i64_in, IntWalk.u64_in, IntWalk.u8_in, hS]
    refine state_call (h.new (hnew _ _) (by omega)) (by omega) ?_
    intro o1 nx1 hle1 hB1 hk1
    have k1 : BKeep t o nx o1 := (BKeep.new (hnew (.row ⟨28, 1, (nx, 3), false, true, cNd nd⟩) (.row ⟨51, 1, (nx, 4), false, true, [.int .i64 0, .int .i64 0]⟩))).trans hk1 (by omega)
    have hx3 : o1 (nx, 3) = some (.row ⟨28, 1, (nx, 3), false, true, cNd nd⟩) := by rw [hk1 _ _ (by omega) (fun e => absurd e (by decide)) (by decide) (by decide)]; simp [upd_app]
    have hx4 : o1 (nx, 4) = some (.row ⟨51, 1, (nx, 4), false, true, [.int .i64 0, .int .i64 0]⟩) := by rw [hk1 _ _ (by omega) (fun e => absurd e (by decide)) (by decide) (by decide)]; simp [upd_app]
    have hx3' := hx3
    rw [hcn] at hx3'
    simp (disch := omega) only [go_sem, ↓IntWalk.iteOmega, IntWalk.toNatUp, Nat.reduceEqDiff, Nat.reduceAdd, Nat.reduceMul, Nat.reduceSub, Nat.reduceLT, Nat.reduceLeDiff, Int.reduceToNat, Int.reduceLT, Int.reduceLE, Int.reduceEq, Int.reduceAdd, Int.reduceSub, Int.reduceMul, Int.toNat_natCast, reduceCtorEq, decide_true, decide_false, IntWalk.i64_in, IntWalk.u64_in, IntWalk.u8_in, hx3']
    have hn17 : ∀ y i j, i < nx1 → upd o1 (nx1, 17) y (i, j) = o1 (i, j) := fun y i j hi => by simp (disch := omega) only [upd_fst]
    rw [hnd] at hx3
    refine rep_loop1 (kind := kind) (set := set) (lo := lo) (hi := hi) (x := x) (l := l) (r := nx) (t := t) (o0 := o) (nx0 := nx) (b := b.state) (s5 := .int .i64 b.n) hhi (Nat.le_refl _) (by omega) (hB1.new (hn17 _) (by omega)) (by simp (disch := omega) only [go_sem, ↓IntWalk.iteOmega, IntWalk.toNatUp, Nat.reduceEqDiff, Nat.reduceAdd, Nat.reduceMul, Nat.reduceSub, Nat.reduceLT, Nat.reduceLeDiff, Int.reduceToNat, Int.reduceLT, Int.reduceLE, Int.reduceEq, Int.reduceAdd, Int.reduceSub, Int.reduceMul, Int.toNat_natCast, reduceCtorEq, decide_true, decide_false, IntWalk.i64_in, IntWalk.u64_in, IntWalk.u8_in]) (by rw [hn17 _ _ _ (by omega)]; exact hx3) ⟨nx1, by simp (disch := omega) only [go_sem, ↓IntWalk.iteOmega, IntWalk.toNatUp, Nat.reduceEqDiff, Nat.reduceAdd, Nat.reduceMul, Nat.reduceSub, Nat.reduceLT, Nat.reduceLeDiff, Int.reduceToNat, Int.reduceLT, Int.reduceLE, Int.reduceEq, Int.reduceAdd, Int.reduceSub, Int.reduceMul, Int.toNat_natCast, reduceCtorEq, decide_true, decide_false, IntWalk.i64_in, IntWalk.u64_in, IntWalk.u8_in], by omega, by omega, upd_same _ _ _⟩ (by simp (disch := omega) only [go_sem, ↓IntWalk.iteOmega, IntWalk.toNatUp, Nat.reduceEqDiff, Nat.reduceAdd, Nat.reduceMul, Nat.reduceSub, Nat.reduceLT, Nat.reduceLeDiff, Int.reduceToNat, Int.reduceLT, Int.reduceLE, Int.reduceEq, Int.reduceAdd, Int.reduceSub, Int.reduceMul, Int.toNat_natCast, reduceCtorEq, decide_true, decide_false, IntWalk.i64_in, IntWalk.u64_in, IntWalk.u8_in]) (by simp (disch := omega) only [go_sem, ↓IntWalk.iteOmega, IntWalk.toNatUp, Nat.reduceEqDiff, Nat.reduceAdd, Nat.reduceMul, Nat.reduceSub, Nat.reduceLT, Nat.reduceLeDiff, Int.reduceToNat, Int.reduceLT, Int.reduceLE, Int.reduceEq, Int.reduceAdd, Int.reduceSub, Int.reduceMul, Int.toNat_natCast, reduceCtorEq, decide_true, decide_false, IntWalk.i64_in, IntWalk.u64_in, IntWalk.u8_in]) ⟨by simp (disch := omega) only [go_sem, ↓IntWalk.iteOmega, IntWalk.toNatUp, Nat.reduceEqDiff, Nat.reduceAdd, Nat.reduceMul, Nat.reduceSub, Nat.reduceLT, Nat.reduceLeDiff, Int.reduceToNat, Int.reduceLT, Int.reduceLE, Int.reduceEq, Int.reduceAdd, Int.reduceSub, Int.reduceMul, Int.toNat_natCast, reduceCtorEq, decide_true, decide_false, IntWalk.i64_in, IntWalk.u64_in, IntWalk.u8_in], by simp (disch := omega) only [go_sem, ↓IntWalk.iteOmega, IntWalk.toNatUp, Nat.reduceEqDiff, Nat.reduceAdd, Nat.reduceMul, Nat.reduceSub, Nat.reduceLT, Nat.reduceLeDiff, Int.reduceToNat, Int.reduceLT, Int.reduceLE, Int.reduceEq, Int.reduceAdd, Int.reduceSub, Int.reduceMul, Int.toNat_natCast, reduceCtorEq, decide_true, decide_false, IntWalk.i64_in, IntWalk.u64_in, IntWalk.u8_in], by simp (disch := omega) only [go_sem, ↓IntWalk.iteOmega, IntWalk.toNatUp, Nat.reduceEqDiff, Nat.reduceAdd, Nat.reduceMul, Nat.reduceSub, Nat.reduceLT, Nat.reduceLeDiff, Int.reduceToNat, Int.reduceLT, Int.reduceLE, Int.reduceEq, Int.reduceAdd, Int.reduceSub, Int.reduceMul, Int.toNat_natCast, reduceCtorEq, decide_true, decide_false, IntWalk.i64_in, IntWalk.u64_in, IntWalk.u8_in], by rw [hn17 _ _ _ (by omega)]; exact hx4, k1.trans (BKeep.new (hn17 _)) (by omega)⟩ ?_
    clear hB1 hk1 k1 hx3 hx4 hx3' hn17
    intro a o2 nx2 v2 hnx2 ha6 hv2 ha3 hx3 hB2 ha0 ha5 ha4 hx4 k2
    simp (disch := omega) only [go_sem, ↓IntWalk.iteOmega, IntWalk.toNatUp, Nat.reduceEqDiff, Nat.reduceAdd, Nat.reduceMul, Nat.reduceSub, Nat.reduceLT, Nat.reduceLeDiff, Int.reduceToNat, Int.reduceLT, Int.reduceLE, Int.reduceEq, Int.reduceAdd, Int.reduceSub, Int.reduceMul, Int.toNat_natCast, reduceCtorEq, decide_true, decide_false, IntWalk.i64_in, IntWalk.u64_in, IntWalk.u8_in, hP, ha0, ha3, ha4, ha5, ha6]
    have hlr := hNs_rep x hi.toNat
    have hB2' : BAt o2 (nx2 + 1) t b.state := hB2.new (fun _ _ _ => rfl) (by omega)
    have hv2' : NdsAt o2 (nx2 + 1) v2 (List.replicate hi.toNat x) := .inr (by rw [List.length_replicate]; exact hv2.keep (fun _ _ => rfl) (by omega))
    have hPo := parts_ok (okNs_rep hk hi.toNat) (by rw [List.length_replicate]; omega) (fun y hy t o nx b hb hpb => by rw [List.eq_of_mem_replicate hy] at hpb ⊢; exact hpart t o nx b hb hpb) hv2' hB2' ⟨by omega, by omega, by omega⟩ (by omega)
    refine parts_call hPo hv2' hB2' ?_
    clear hPo hv2' hB2'
    intro v3 o3 nx3 hle3 hB3 k3 hv3
    rw [bPartL_rep] at hB3 hv3
    have hbl := parts_bd (h := hN x) (List.replicate hi.toNat (bPart x)) b.state [] (fun f hf b => by rw [List.eq_of_mem_replicate hf]; exact part_bd x hk b)
    obtain ⟨r, hr⟩ : ∃ r, r = bParts (List.replicate hi.toNat (bPart x)) b.state [] := ⟨_, rfl⟩
    have hbr : bRepeat lo hi.toNat (bPart x) b = if r.2.state.n > 1000 then (((b.n : Int), (r.2.n : Int)), r.2.state) else (((b.n : Int), (r.2.n : Int)), r.2.state.frees (headL b.n r.1 ++ rLinks lo r.2.n 0 r.1 ++ (if lo = 0 then [((b.n : Int), (r.2.n : Int))] else []))) := by rw [hr]; rfl
    rw [← hr] at hB3 hv3 hbl
    have b1 := hbl.hi
    have b2 := hbl.f4
    have b3 : r.1.length ≤ 10 := by
      rcases hbl.str with e | e
      · rw [e]; simp
      · have := e.1; simp at this; omega
    clear hr hbl
    have k03 : BKeep t o nx o3 := k2.trans (fun i j (hi : i < nx2) => k3 i j (by omega)) (by omega)
    have hx3' := k3.row hx3 (by omega) (fun e => absurd e (by decide)) (by decide) (by decide)
    have hx4' := k3.row hx4 (by omega) (fun e => absurd e (by decide)) (by decide) (by decide)
    clear k3 hx3 hx4 hB2 hv2 k2
    have hok3 := hv3.ok
    simp (disch := omega) only [go_sem, ↓IntWalk.iteOmega, IntWalk.toNatUp, Nat.reduceEqDiff, Nat.reduceAdd, Nat.reduceMul, Nat.reduceSub, Nat.reduceLT, Nat.reduceLeDiff, Int.reduceToNat, Int.reduceLT, Int.reduceLE, Int.reduceEq, Int.reduceAdd, Int.reduceSub, Int.reduceMul, Int.toNat_natCast, reduceCtorEq, decide_true, decide_false, IntWalk.i64_in, IntWalk.u64_in, IntWalk.u8_in, hS, ha0, ha3, ha4, ha5, ha6]
    refine state_call (hB3.new (fun _ _ _ => rfl) (by omega)) (by omega) ?_
    intro o4 nx4 hle4 hB4 k4
    have k04 : BKeep t o nx o4 := k03.trans (fun i j (hi : i < nx3) => k4 i j (by omega)) (by omega)
    have hx3 := k4.row hx3' (by omega) (fun e => absurd e (by decide)) (by decide) (by decide)
    have hx4 := k4.row hx4' (by omega) (fun e => absurd e (by decide)) (by decide) (by decide)
    have hv4 := hv3.keep (o' := o4) (nx' := nx4) (fun i hi => k4 i 21 (by omega) (fun e => absurd e (by decide)) (by decide) (by decide)) (by omega)
    clear k4 hx3' hx4' hB3 hv3 k03
    simp (disch := omega) only [go_sem, ↓IntWalk.iteOmega, IntWalk.toNatUp, Nat.reduceEqDiff, Nat.reduceAdd, Nat.reduceMul, Nat.reduceSub, Nat.reduceLT, Nat.reduceLeDiff, Int.reduceToNat, Int.reduceLT, Int.reduceLE, Int.reduceEq, Int.reduceAdd, Int.reduceSub, Int.reduceMul, Int.toNat_natCast, reduceCtorEq, decide_true, decide_false, IntWalk.i64_in, IntWalk.u64_in, IntWalk.u8_in, hU, ha0, ha3, ha4, ha5, ha6]
    refine full_call (hB4.new (fun _ _ _ => rfl) (by omega)) ?_
    intro o5 nx5 hle5 hB5 k5
    have k05 : BKeep t o nx o5 := k04.trans (fun i j (hi : i < nx4) => k5 i j (by omega)) (by omega)
    have hx3' := k5.row hx3 (by omega) (fun e => absurd e (by decide)) (by decide) (by decide)
    have hx4' := k5.row hx4 (by omega) (fun e => absurd e (by decide)) (by decide) (by decide)
    have hv5 := hv4.keep (o' := o5) (nx' := nx5) (fun i hi => k5 i 21 (by omega) (fun e => absurd e (by decide)) (by decide) (by decide)) (by omega)
    clear k5 hx3 hx4 hB4 hv4 k04
    rw [cNd_mk] at hx3'
    by_cases hfull : (1000 : Int) < r.2.state.n
    · rw [if_pos (by omega)] at hbr
      simp (disch := omega) only [go_sem, ↓IntWalk.iteOmega, IntWalk.toNatUp, Nat.reduceEqDiff, Nat.reduceAdd, Nat.reduceMul, Nat.reduceSub, Nat.reduceLT, Nat.reduceLeDiff, Int.reduceToNat, Int.reduceLT, Int.reduceLE, Int.reduceEq, Int.reduceAdd, Int.reduceSub, Int.reduceMul, Int.toNat_natCast, reduceCtorEq, decide_true, decide_false, IntWalk.i64_in, IntWalk.u64_in, IntWalk.u8_in, hfull, ha0, ha3, ha4, ha5, ha6, hx4']
      rw [hbr]
      refine ⟨rfl, by show nx ≤ nx5 + 1; omega, hB5.slot2 (fun i j hj => ?_) (by show nx5 ≤ nx5 + 1; omega), ?_⟩
      · have : ¬ (j = 4) := by omega
        simp [upd_app, this]
      intro i j hi a1 a2 a3
      have : i ≠ nx := by have : i < nx := hi; omega
      exact (by simp [upd_app, this] : _ = o5 (i, j)).trans (k05 i j hi a1 a2 a3)
    · rw [if_neg (by omega)] at hbr
      have hbf : r.2.state.f.length = r.2.f.length := rfl
      have hx3'' : o5 (nx, 3) = some (.row ⟨28, 1, (nx, 3), false, true, cNd (.mk kind set lo hi (x :: l))⟩) := by rw [hx3', cNd_mk]
      rw [decide_eq_false hfull]
      simp only [kH_eq, WS_nil, thenQ_normal, WP_cond, opd_tmp, putO_some, put_same, wC_bool, wIf_false, WP_skip]
      refine rep_mid hF hlo b3 htn (by omega) hB5 (T := (bRepeat lo hi.toNat (bPart x) b).2) (b := b) (by rw [hbr]) (by omega) hv5 (by simp (disch := omega) only [go_sem, ↓IntWalk.iteOmega, IntWalk.toNatUp, Nat.reduceEqDiff, Nat.reduceAdd, Nat.reduceMul, Nat.reduceSub, Nat.reduceLT, Nat.reduceLeDiff, Int.reduceToNat, Int.reduceLT, Int.reduceLE, Int.reduceEq, Int.reduceAdd, Int.reduceSub, Int.reduceMul, Int.toNat_natCast, reduceCtorEq, decide_true, decide_false, IntWalk.i64_in, IntWalk.u64_in, IntWalk.u8_in, ha3]) hx3'' (by simp (disch := omega) only [go_sem, ↓IntWalk.iteOmega, IntWalk.toNatUp, Nat.reduceEqDiff, Nat.reduceAdd, Nat.reduceMul, Nat.reduceSub, Nat.reduceLT, Nat.reduceLeDiff, Int.reduceToNat, Int.reduceLT, Int.reduceLE, Int.reduceEq, Int.reduceAdd, Int.reduceSub, Int.reduceMul, Int.toNat_natCast, reduceCtorEq, decide_true, decide_false, IntWalk.i64_in, IntWalk.u64_in, IntWalk.u8_in]) (by simp (disch := omega) only [go_sem, ↓IntWalk.iteOmega, IntWalk.toNatUp, Nat.reduceEqDiff, Nat.reduceAdd, Nat.reduceMul, Nat.reduceSub, Nat.reduceLT, Nat.reduceLeDiff, Int.reduceToNat, Int.reduceLT, Int.reduceLE, Int.reduceEq, Int.reduceAdd, Int.reduceSub, Int.reduceMul, Int.toNat_natCast, reduceCtorEq, decide_true, decide_false, IntWalk.i64_in, IntWalk.u64_in, IntWalk.u8_in, ha0]) (by simp (disch := omega) only [go_sem, ↓IntWalk.iteOmega, IntWalk.toNatUp, Nat.reduceEqDiff, Nat.reduceAdd, Nat.reduceMul, Nat.reduceSub, Nat.reduceLT, Nat.reduceLeDiff, Int.reduceToNat, Int.reduceLT, Int.reduceLE, Int.reduceEq, Int.reduceAdd, Int.reduceSub, Int.reduceMul, Int.toNat_natCast, reduceCtorEq, decide_true, decide_false, IntWalk.i64_in, IntWalk.u64_in, IntWalk.u8_in, ha5]) (by simp (disch := omega) only [go_sem, ↓IntWalk.iteOmega, IntWalk.toNatUp, Nat.reduceEqDiff, Nat.reduceAdd, Nat.reduceMul, Nat.reduceSub, Nat.reduceLT, Nat.reduceLeDiff, Int.reduceToNat, Int.reduceLT, Int.reduceLE, Int.reduceEq, Int.reduceAdd, Int.reduceSub, Int.reduceMul, Int.toNat_natCast, reduceCtorEq, decide_true, decide_false, IntWalk.i64_in, IntWalk.u64_in, IntWalk.u8_in, ha4]) hx4' (by simp (disch := omega) only [go_sem, ↓IntWalk.iteOmega, IntWalk.toNatUp, Nat.reduceEqDiff, Nat.reduceAdd, Nat.reduceMul, Nat.reduceSub, Nat.reduceLT, Nat.reduceLeDiff, Int.reduceToNat, Int.reduceLT, Int.reduceLE, Int.reduceEq, Int.reduceAdd, Int.reduceSub, Int.reduceMul, Int.toNat_natCast, reduceCtorEq, decide_true, decide_false, IntWalk.i64_in, IntWalk.u64_in, IntWalk.u8_in]) k05 ?_
      intro a o' nx' hle hB h4 ho4 hk
      simp (disch := omega) only [go_sem, ↓IntWalk.iteOmega, IntWalk.toNatUp, Nat.reduceEqDiff, Nat.reduceAdd, Nat.reduceMul, Nat.reduceSub, Nat.reduceLT, Nat.reduceLeDiff, Int.reduceToNat, Int.reduceLT, Int.reduceLE, Int.reduceEq, Int.reduceAdd, Int.reduceSub, Int.reduceMul, Int.toNat_natCast, reduceCtorEq, decide_true, decide_false, IntWalk.i64_in, IntWalk.u64_in, IntWalk.u8_in, h4, ho4]
      rw [hbr]
      rw [hbr] at hB
      exact ⟨rfl, hle, hB, hk⟩)
  refine ⟨v, H', hnd ▸ h1, fun t' b' kind' set' lo' hi' x' l' e hb => ?_⟩
  simp only [List.cons.injEq, AV.ptr.injEq, Prod.mk.injEq, AV.agg.injEq, and_true] at e
  obtain ⟨⟨rfl, _⟩, e2⟩ := e
  have e3 := cNd_inj e2
  injection e3 with _ _ r1 r2 r3
  injection r3 with r3 _
  rw [← h.same hb, ← r1, ← r2, ← r3]
  exact h2
end Go.Proofs.Ytfmijoglolecgaa.A
/- The builder: the loops of part. -/
namespace Go.Proofs.Ytfmijoglolecgaa.A
open Go
set_option maxRecDepth 20000
theorem links_next {p : List (Int × Int)} {i : Nat} (h : i + 1 < p.length) : links (p.drop i) = ((p.getD i (0, 0)).2, (p.getD (i + 1) (0, 0)).1) :: links (p.drop (i + 1)) := by
  rw [getD_drop p (0, 0) (show i < p.length by omega), getD_drop p (0, 0) h, links]
theorem links_last {p : List (Int × Int)} {i : Nat} (h : i + 1 = p.length) : links (p.drop i) = [] := by
  have e1 : p.drop (i + 1) = [] := List.drop_of_length_le (by omega)
  rw [getD_drop p (0, 0) (show i < p.length by omega), e1, links]
  intro _ _ _ h; cases h
def nzPart (id : Nat) : Option (List (Nat × Nat)) := if id = 33 then some [(5, 11)] else none
theorem lookBPart (X) : lookedAt (EX md0 X) nzPart 2 Try.f15 = true := by kernel_rfl
theorem bjoin_loop {cr : CallR} (hF : cr 26 = cRel RFree) {t r i1 : Nat} {g1 : Tag} {o0 : Ob} {nx0 : Nat} {T b : BS} {p : List (Int × Int)} {a : AAct} {o : Ob} {nx : Nat} {Q : WPost} (hlen : p.length ≤ 20) (hp0 : 0 < p.length) (hr : nx0 ≤ r) (hrn : r < nx) (hnx : nx0 ≤ nx) (hB : BAt o nx t b) (hT : b.frees (links p) = T) (hbf : b.f.length ≤ 1000000) (hi1 : i1 < nx) (hrow : o (i1, 21) = some (.row ⟨51, 2, g1, false, true, cP p⟩)) (h5 : a 5 = .ref (i1, 21) g1 0 p.length) (h32 : a 32 = .ref (i1, 21) g1 2 (p.length - 1)) (h33 : a 33 = .int .i64 (p.length - 1 : Nat)) (h34 : a 34 = .int .i64 0)
    (hmore : a 0 = bp t ∧ a 4 = .ptr (r, 4) (r, 4) 0 ∧ o (r, 4) = some (.row ⟨51, 1, (r, 4), false, true, [.int .i64 0, .int .i64 0]⟩) ∧ BKeep t o0 nx0 o)
    (hQ : ∀ a o nx, nx0 ≤ nx → r < nx → BAt o nx t T → o (i1, 21) = some (.row ⟨51, 2, g1, false, true, cP p⟩) → a 5 = .ref (i1, 21) g1 0 p.length → a 0 = bp t → a 4 = .ptr (r, 4) (r, 4) 0 → o (r, 4) = some (.row ⟨51, 1, (r, 4), false, true, [.int .i64 0, .int .i64 0]⟩) → BKeep t o0 nx0 o → Q .normal a o nx) :
    WP (EX md0 (fun _ _ => none)) cr 30 nzPart (pathC [1, 0, 1, 0, 1, 0, 1, 1, 0, 1, 0] (Try.f15.body.getD .skip)) a o nx (blockQ 1 Q) := by
  simp only [Try.f15, Option.getD_some, pathC]
  refine WP_loop (fun m a o nx => ∃ (i : Nat) (b : BS), i + 1 ≤ p.length ∧ m = p.length - 1 - i ∧ nx0 ≤ nx ∧ r < nx ∧ BAt o nx t b ∧ b.frees (links (p.drop i)) = T ∧ b.f.length ≤ 1000000 + i ∧ i1 < nx ∧ o (i1, 21) = some (.row ⟨51, 2, g1, false, true, cP p⟩) ∧ a 5 = .ref (i1, 21) g1 0 p.length ∧ a 32 = .ref (i1, 21) g1 2 (p.length - 1) ∧ a 33 = .int .i64 (p.length - 1 : Nat) ∧ a 34 = .int .i64 i ∧ a 0 = bp t ∧ a 4 = .ptr (r, 4) (r, 4) 0 ∧ o (r, 4) = some (.row ⟨51, 1, (r, 4), false, true, [.int .i64 0, .int .i64 0]⟩) ∧ BKeep t o0 nx0 o) (p.length - 1) (by omega) ⟨0, b, by omega, by omega, hnx, hrn, hB, hT, by omega, hi1, hrow, h5, h32, h33, h34, hmore⟩ ?_
  clear hmore h5 h32 h33 h34 hB hT hbf hrow hrn hnx hi1
  rintro m a o nx ⟨i, b, hi, rfl, hnx, hrn, hB, hT, hbf, hi1, hrow, h5, h32, h33, h34, h0, h4, ho4, hkp⟩
  by_cases hlt : i + 1 < p.length
  · have hat := cP_at (show i < p.length by omega)
    have hat3 : (cP p).drop (i * 2 + 1) = .int .i64 (p.getD i (0, 0)).2 :: cP (p.drop (i + 1)) := by rw [← List.drop_drop, hat]; rfl
    have hat2 : (cP p).drop (2 + i * 2) = .int .i64 (p.getD (i + 1) (0, 0)).1 :: .int .i64 (p.getD (i + 1) (0, 0)).2 :: cP (p.drop (i + 1 + 1)) := by rw [show 2 + i * 2 = (i + 1) * 2 by omega]; exact cP_at hlt
    have hsl : ∀ y z i' j', j' ≠ 7 → upd (upd o (nx + 1, 7) y) (nx + 1, 7) z (i', j') = o (i', j') := fun y z i' j' h => by simp [upd_app, h]
    have hsn : ∀ y z i' j', i' < nx → upd (upd o (nx + 1, 7) y) (nx + 1, 7) z (i', j') = o (i', j') := fun y z i' j' h => by
      have : i' ≠ nx + 1 := by omega
      simp [upd_app, this]
    simp (disch := omega) only [go_sem, ↓IntWalk.iteOmega, IntWalk.toNatUp, Nat.reduceEqDiff, Nat.reduceAdd, Nat.reduceMul, Nat.reduceSub, Nat.reduceLT, Nat.reduceLeDiff, Int.reduceToNat, Int.reduceLT, Int.reduceLE, Int.reduceEq, Int.reduceAdd, Int.reduceSub, Int.reduceMul, Int.toNat_natCast, reduceCtorEq, decide_true, decide_false, IntWalk.i64_in, IntWalk.u64_in, IntWalk.u8_in, h0, h4, h5, h32, h33, h34, hrow, hat, hat2, hat3, hF, nzPart]
    refine free_call (hB.slot2 (fun i' j' hj' => hsl _ _ i' j' (by omega)) (by omega)) _ _ (by omega) ?_
    intro o1 nx1 hle1 hB1 hk1
    have k1 : BKeep t o nx o1 := (BKeep.new (hsn _ _)).trans hk1 (by omega)
    have hrow1 := k1.row hrow hi1 (fun e => absurd e (by decide)) (by decide) (by decide)
    have ho41 := k1.row ho4 hrn (fun e => absurd e (by decide)) (by decide) (by decide)
    rw [links_next hlt, frees_cons] at hT
    simp (disch := omega) only [go_sem, ↓IntWalk.iteOmega, IntWalk.toNatUp, Nat.reduceEqDiff, Nat.reduceAdd, Nat.reduceMul, Nat.reduceSub, Nat.reduceLT, Nat.reduceLeDiff, Int.reduceToNat, Int.reduceLT, Int.reduceLE, Int.reduceEq, Int.reduceAdd, Int.reduceSub, Int.reduceMul, Int.toNat_natCast, reduceCtorEq, decide_true, decide_false, IntWalk.i64_in, IntWalk.u64_in, IntWalk.u8_in, h0, h4, h5, h32, h33, h34, hrow, hat, hat2, hat3, hF, nzPart]
    refine ⟨_, ?_, i + 1, _, by omega, rfl, by omega, by omega, hB1.new (fun _ _ _ => rfl) (by omega), hT, by simp only [BS.free_f, List.length_append, List.length_cons, List.length_nil]; omega, by omega, hrow1, rfl, ho41, hkp.trans k1 hnx⟩
    omega
  · rw [links_last (by omega), frees_nil] at hT
    simp (disch := omega) only [go_sem, ↓IntWalk.iteOmega, IntWalk.toNatUp, Nat.reduceEqDiff, Nat.reduceAdd, Nat.reduceMul, Nat.reduceSub, Nat.reduceLT, Nat.reduceLeDiff, Int.reduceToNat, Int.reduceLT, Int.reduceLE, Int.reduceEq, Int.reduceAdd, Int.reduceSub, Int.reduceMul, Int.toNat_natCast, reduceCtorEq, decide_true, decide_false, IntWalk.i64_in, IntWalk.u64_in, IntWalk.u8_in, h0, h4, h5, h32, h33, h34, hrow, hF, nzPart]
    exact hQ _ _ _ (by omega) (by omega) (hT ▸ hB.new (fun _ _ _ => rfl) (by omega)) hrow (by simp (disch := omega) only [go_sem, ↓IntWalk.iteOmega, IntWalk.toNatUp, Nat.reduceEqDiff, Nat.reduceAdd, Nat.reduceMul, Nat.reduceSub, Nat.reduceLT, Nat.reduceLeDiff, Int.reduceToNat, Int.reduceLT, Int.reduceLE, Int.reduceEq, Int.reduceAdd, Int.reduceSub, Int.reduceMul, Int.toNat_natCast, reduceCtorEq, decide_true, decide_false, IntWalk.i64_in, IntWalk.u64_in, IntWalk.u8_in, h5]) (by simp (disch := omega) only [go_sem, ↓IntWalk.iteOmega, IntWalk.toNatUp, Nat.reduceEqDiff, Nat.reduceAdd, Nat.reduceMul, Nat.reduceSub, Nat.reduceLT, Nat.reduceLeDiff, Int.reduceToNat, Int.reduceLT, Int.reduceLE, Int.reduceEq, Int.reduceAdd, Int.reduceSub, Int.reduceMul, Int.toNat_natCast, reduceCtorEq, decide_true, decide_false, IntWalk.i64_in, IntWalk.u64_in, IntWalk.u8_in, h0]) (by simp (disch := omega) only [go_sem, ↓IntWalk.iteOmega, IntWalk.toNatUp, Nat.reduceEqDiff, Nat.reduceAdd, Nat.reduceMul, Nat.reduceSub, Nat.reduceLT, Nat.reduceLeDiff, Int.reduceToNat, Int.reduceLT, Int.reduceLE, Int.reduceEq, Int.reduceAdd, Int.reduceSub, Int.reduceMul, Int.toNat_natCast, reduceCtorEq, decide_true, decide_false, IntWalk.i64_in, IntWalk.u64_in, IntWalk.u8_in, h4]) ho4 hkp
/-- What a union's parts add. -/
def uLinks (n e : Int) (l : List (Int × Int)) : List (Int × Int) := l.flatMap fun p => [(n, p.1), (p.2, e)]
theorem bunion_loop {cr : CallR} (hF : cr 26 = cRel RFree) {t r : Nat} {n0 e : Int} {o0 : Ob} {nx0 : Nat} {T b : BS} {p : List (Int × Int)} {vp : AV} {a : AAct} {o : Ob} {nx : Nat} {Q : WPost} (hlen : p.length ≤ 20) (hr : nx0 ≤ r) (hrn : r < nx) (hnx : nx0 ≤ nx) (hB : BAt o nx t b) (hT : b.frees (uLinks n0 e p) = T) (hbf : b.f.length ≤ 1000000) (hp : HS 51 2 21 o nx vp p.length (cP p)) (h71 : a 71 = vp) (h72 : a 72 = .int .i64 p.length) (h73 : a 73 = .int .i64 0)
    (hmore : a 0 = bp t ∧ a 4 = .ptr (r, 4) (r, 4) 0 ∧ o (r, 4) = some (.row ⟨51, 1, (r, 4), false, true, [.int .i64 0, .int .i64 0]⟩) ∧ a 8 = .int .i64 n0 ∧ a 10 = .int .i64 e ∧ BKeep t o0 nx0 o)
    (hQ : ∀ a o nx, nx0 ≤ nx → r < nx → BAt o nx t T → a 0 = bp t → a 4 = .ptr (r, 4) (r, 4) 0 → o (r, 4) = some (.row ⟨51, 1, (r, 4), false, true, [.int .i64 0, .int .i64 0]⟩) → a 8 = .int .i64 n0 → a 10 = .int .i64 e → BKeep t o0 nx0 o → Q .normal a o nx) :
    WP (EX md0 (fun _ _ => none)) cr 30 nzPart (pathC [1, 0, 1, 0, 1, 1, 1, 0, 1, 1, 1, 0, 1, 0] (Try.f15.body.getD .skip)) a o nx (blockQ 3 Q) := by
  simp only [Try.f15, Option.getD_some, pathC]
  refine WP_loop (fun m a o nx => ∃ (i : Nat) (b : BS), i ≤ p.length ∧ m = p.length - i ∧ nx0 ≤ nx ∧ r < nx ∧ BAt o nx t b ∧ b.frees (uLinks n0 e (p.drop i)) = T ∧ b.f.length ≤ 1000000 + 2 * i ∧ HS 51 2 21 o nx vp p.length (cP p) ∧ a 71 = vp ∧ a 72 = .int .i64 p.length ∧ a 73 = .int .i64 i ∧ a 0 = bp t ∧ a 4 = .ptr (r, 4) (r, 4) 0 ∧ o (r, 4) = some (.row ⟨51, 1, (r, 4), false, true, [.int .i64 0, .int .i64 0]⟩) ∧ a 8 = .int .i64 n0 ∧ a 10 = .int .i64 e ∧ BKeep t o0 nx0 o) p.length (by omega) ⟨0, b, by omega, by omega, hnx, hrn, hB, hT, by omega, hp, h71, h72, h73, hmore⟩ ?_
  clear hmore h71 h72 h73 hB hT hbf hp hrn hnx
  rintro m a o nx ⟨i, b, hi, rfl, hnx, hrn, hB, hT, hbf, hp, h71, h72, h73, h0, h4, ho4, h8, h10, hkp⟩
  by_cases hlt : i < p.length
  · rcases hp with ⟨_, e1, _⟩ | ⟨i1, g1, rfl, hi1, hrow, hlen'⟩
    · omega
    have hat := cP_at hlt
    have hsl : ∀ y z i' j', j' ≠ 12 → upd (upd o (nx + 1, 12) y) (nx + 1, 12) z (i', j') = o (i', j') := fun y z i' j' h => by simp [upd_app, h]
    have hsn : ∀ y z i' j', i' < nx → upd (upd o (nx + 1, 12) y) (nx + 1, 12) z (i', j') = o (i', j') := fun y z i' j' h => by
      have : i' ≠ nx + 1 := by omega
      simp [upd_app, this]
    rw [getD_drop p (0, 0) hlt, show uLinks n0 e (p.getD i (0, 0) :: p.drop (i + 1)) = (n0, (p.getD i (0, 0)).1) :: ((p.getD i (0, 0)).2, e) :: uLinks n0 e (p.drop (i + 1)) from rfl, frees_cons, frees_cons] at hT
    simp (disch := omega) only [go_sem, ↓IntWalk.iteOmega, IntWalk.toNatUp, Nat.reduceEqDiff, Nat.reduceAdd, Nat.reduceMul, Nat.reduceSub, Nat.reduceLT, Nat.reduceLeDiff, Int.reduceToNat, Int.reduceLT, Int.reduceLE, Int.reduceEq, Int.reduceAdd, Int.reduceSub, Int.reduceMul, Int.toNat_natCast, reduceCtorEq, decide_true, decide_false, IntWalk.i64_in, IntWalk.u64_in, IntWalk.u8_in, h0, h4, h8, h10, h71, h72, h73, hrow, hat, hF, nzPart]
    refine free_call (hB.slot2 (fun i' j' hj' => hsl _ _ i' j' (by omega)) (by omega)) _ _ (by omega) ?_
    intro o1 nx1 hle1 hB1 hk1
    have k1 : BKeep t o nx o1 := (BKeep.new (hsn _ _)).trans hk1 (by omega)
    have hrow1 := k1.row hrow hi1 (fun e => absurd e (by decide)) (by decide) (by decide)
    have ho41 := k1.row ho4 hrn (fun e => absurd e (by decide)) (by decide) (by decide)
    have hz1 : o1 (nx + 1, 12) = some (.row ⟨51, 1, (nx + 1, 12), false, true, [.int .i64 (p.getD i (0, 0)).1, .int .i64 (p.getD i (0, 0)).2]⟩) := by rw [hk1 _ _ (by omega) (fun e => absurd e (by decide)) (by decide) (by decide)]; exact upd_same _ _ _
    simp (disch := omega) only [go_sem, ↓IntWalk.iteOmega, IntWalk.toNatUp, Nat.reduceEqDiff, Nat.reduceAdd, Nat.reduceMul, Nat.reduceSub, Nat.reduceLT, Nat.reduceLeDiff, Int.reduceToNat, Int.reduceLT, Int.reduceLE, Int.reduceEq, Int.reduceAdd, Int.reduceSub, Int.reduceMul, Int.toNat_natCast, reduceCtorEq, decide_true, decide_false, IntWalk.i64_in, IntWalk.u64_in, IntWalk.u8_in, h0, h4, h8, h10, h71, h72, h73, hrow1, hat, hF, nzPart, hz1]
    refine free_call (hB1.new (fun _ _ _ => rfl) (by omega)) _ _ (by simp only [BS.free_f, List.length_append, List.length_cons, List.length_nil]; omega) ?_
    intro o2 nx2 hle2 hB2 hk2
    have k2 : BKeep t o nx o2 := k1.trans (fun i j (hi : i < nx1) => hk2 i j (by omega)) (by omega)
    simp (disch := omega) only [go_sem, ↓IntWalk.iteOmega, IntWalk.toNatUp, Nat.reduceEqDiff, Nat.reduceAdd, Nat.reduceMul, Nat.reduceSub, Nat.reduceLT, Nat.reduceLeDiff, Int.reduceToNat, Int.reduceLT, Int.reduceLE, Int.reduceEq, Int.reduceAdd, Int.reduceSub, Int.reduceMul, Int.toNat_natCast, reduceCtorEq, decide_true, decide_false, IntWalk.i64_in, IntWalk.u64_in, IntWalk.u8_in, h0, h4, h8, h10, h71, h72, h73, hrow1, hat, hF, nzPart, hz1]
    refine ⟨_, ?_, i + 1, _, by omega, rfl, by omega, by omega, hB2.new (fun _ _ _ => rfl) (by omega), hT, by simp only [BS.free_f, List.length_append, List.length_cons, List.length_nil]; omega, .inr ⟨i1, g1, rfl, by omega, k2.row hrow hi1 (fun e => absurd e (by decide)) (by decide) (by decide), hlen'⟩, rfl, k2.row ho4 hrn (fun e => absurd e (by decide)) (by decide) (by decide), hkp.trans k2 hnx⟩
    omega
  · rw [List.drop_of_length_le (by omega), show uLinks n0 e [] = [] from rfl, frees_nil] at hT
    simp (disch := omega) only [go_sem, ↓IntWalk.iteOmega, IntWalk.toNatUp, Nat.reduceEqDiff, Nat.reduceAdd, Nat.reduceMul, Nat.reduceSub, Nat.reduceLT, Nat.reduceLeDiff, Int.reduceToNat, Int.reduceLT, Int.reduceLE, Int.reduceEq, Int.reduceAdd, Int.reduceSub, Int.reduceMul, Int.toNat_natCast, reduceCtorEq, decide_true, decide_false, IntWalk.i64_in, IntWalk.u64_in, IntWalk.u8_in, h0, h4, h8, h10, h71, h72, h73, hF, nzPart]
    exact hQ _ _ _ (by omega) (by omega) (hT ▸ hB.new (fun _ _ _ => rfl) (by omega)) (by simp (disch := omega) only [go_sem, ↓IntWalk.iteOmega, IntWalk.toNatUp, Nat.reduceEqDiff, Nat.reduceAdd, Nat.reduceMul, Nat.reduceSub, Nat.reduceLT, Nat.reduceLeDiff, Int.reduceToNat, Int.reduceLT, Int.reduceLE, Int.reduceEq, Int.reduceAdd, Int.reduceSub, Int.reduceMul, Int.toNat_natCast, reduceCtorEq, decide_true, decide_false, IntWalk.i64_in, IntWalk.u64_in, IntWalk.u8_in, h0]) (by simp (disch := omega) only [go_sem, ↓IntWalk.iteOmega, IntWalk.toNatUp, Nat.reduceEqDiff, Nat.reduceAdd, Nat.reduceMul, Nat.reduceSub, Nat.reduceLT, Nat.reduceLeDiff, Int.reduceToNat, Int.reduceLT, Int.reduceLE, Int.reduceEq, Int.reduceAdd, Int.reduceSub, Int.reduceMul, Int.toNat_natCast, reduceCtorEq, decide_true, decide_false, IntWalk.i64_in, IntWalk.u64_in, IntWalk.u8_in, h4]) ho4 (by simp (disch := omega) only [go_sem, ↓IntWalk.iteOmega, IntWalk.toNatUp, Nat.reduceEqDiff, Nat.reduceAdd, Nat.reduceMul, Nat.reduceSub, Nat.reduceLT, Nat.reduceLeDiff, Int.reduceToNat, Int.reduceLT, Int.reduceLE, Int.reduceEq, Int.reduceAdd, Int.reduceSub, Int.reduceMul, Int.toNat_natCast, reduceCtorEq, decide_true, decide_false, IntWalk.i64_in, IntWalk.u64_in, IntWalk.u8_in, h8]) (by simp (disch := omega) only [go_sem, ↓IntWalk.iteOmega, IntWalk.toNatUp, Nat.reduceEqDiff, Nat.reduceAdd, Nat.reduceMul, Nat.reduceSub, Nat.reduceLT, Nat.reduceLeDiff, Int.reduceToNat, Int.reduceLT, Int.reduceLE, Int.reduceEq, Int.reduceAdd, Int.reduceSub, Int.reduceMul, Int.toNat_natCast, reduceCtorEq, decide_true, decide_false, IntWalk.i64_in, IntWalk.u64_in, IntWalk.u8_in, h10]) hkp
end Go.Proofs.Ytfmijoglolecgaa.A
