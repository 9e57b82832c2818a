/- The builder: repeat. UNDER WAY. -/
import Derived.Test.YtcaemgpificohaaMLBuilds1
import Derived.Test.YtcaemgpificohaaMLBuilds2
import Derived.Test.YtcaemgpificohaaMLBuilds3
import Derived.Test.YtcaemgpificohaaMLBuilds4
import Derived.Test.YtcaemgpificohaaMLBuilds5
import Derived.Test.YtcaemgpificohaaMLBuilds6
import Derived.Test.YtcaemgpificohaaMLBuilds7
set_option linter.unusedVariables false
set_option linter.unusedSimpArgs false
set_option linter.unnecessarySimpa false
namespace Go.Proofs.Ytcaemgpificohaa.A
open Go
set_option maxRecDepth 20000
theorem once_call {x : Nd} {t : Nat} {o : Ob} {nx : Nat} {b : BS} {ar bk : Bool} {K : AV × AH → Prop} (hex : ∃ v H', ROnce [bp t, nodeV x, .bool ar, .bool bk] ⟨o, nx⟩ v H') (h : BAt o nx t b) (hK : ∀ o' nx', nx ≤ nx' → BAt o' nx' t (bOnce (bPart x) ar bk b).2 → BKeep t o nx o' → K (bE (bOnce (bPart x) ar bk b).1, ⟨o', nx'⟩)) :
    wO (Option.map (fun p => freezeR false p.1 p.2) (cRel ROnce [bp t, nodeV x, .bool ar, .bool bk] ⟨o, nx⟩)) K := by
  refine cRel_call hex fun v H' hr => ?_
  obtain ⟨rfl, h1, h2, h3⟩ := hr.2 t b x ar bk rfl h
  exact hK H'.o H'.nx h1 h2 h3
def RRep (args : List AV) (H : AH) (v : AV) (H' : AH) : Prop := OkR Try.prog 52 args H v H' ∧ ∀ t b kind set lo hi x l, args = [bp t, nodeV (.mk kind set lo hi (x :: l))] → BAt H.o H.nx t b → v = bE (bRepeat lo hi.toNat (bPart x) b).1 ∧ BTo t (bRepeat lo hi.toNat (bPart x) b).2 H H'
theorem lookRep (X) : lookedAt (EX md0 X) (fun _ => none) 2 Try.f52 = true := by kernel_rfl
theorem crRep_ok : CRSound Try.prog (tabLookR [(50, cRel RState), (49, cRel RFree), (33, cRel RFull), (48, cRel RParts)]) ∧ Up (tabLookR [(50, cRel RState), (49, cRel RFree), (33, cRel RFull), (48, cRel RParts)]) :=
  tabR_cons (tabR_cons (tabR_cons (tabR_cons (tabR_nil _) fun args H v H' h => (cRel_some h).1) fun args H v H' h => (cRel_some h).1) fun args H v H' h => (cRel_some h).1) fun args H v H' h => (cRel_some h).1
theorem rep_loop1 {cr : CallR} {kind set lo hi : Int} {x : Nd} {l : List Nd} {t r : Nat} {o0 : Ob} {nx0 : Nat} {b : BS} {s5 : AV} {a : AAct} {o : Ob} {nx : Nat} {Q : WPost} (hh : 0 ≤ hi ∧ hi ≤ 10) (hr : nx0 ≤ r) (hnx : nx0 ≤ nx) (hB : BAt o nx t b) (h3 : a 3 = .ptr (r, 3) (r, 3) 0) (ho3 : o (r, 3) = some (.row ⟨34, 1, (r, 3), false, true, cNd (.mk kind set lo hi (x :: l))⟩)) (ha6 : ∃ i, a 6 = .ref (i, 17) (i, 17) 0 0 ∧ i < nx ∧ nx0 ≤ i ∧ o (i, 17) = some (.row ⟨34, 5, (i, 17), false, true, []⟩)) (ha19 : a 19 = .int .i64 hi) (ha20 : a 20 = .int .i64 0)
    (hmore : a 0 = bp t ∧ a 5 = s5 ∧ a 4 = .ptr (r, 4) (r, 4) 0 ∧ o (r, 4) = some (.row ⟨65, 1, (r, 4), false, true, [.int .i64 0, .int .i64 0]⟩) ∧ BKeep t o0 nx0 o)
    (hQ : ∀ a o nx v, nx0 ≤ nx → a 6 = v → HS 34 5 17 o nx v hi.toNat (cNds (List.replicate hi.toNat x)) → a 3 = .ptr (r, 3) (r, 3) 0 → o (r, 3) = some (.row ⟨34, 1, (r, 3), false, true, cNd (.mk kind set lo hi (x :: l))⟩) → BAt o nx t b → a 0 = bp t → a 5 = s5 → a 4 = .ptr (r, 4) (r, 4) 0 → o (r, 4) = some (.row ⟨65, 1, (r, 4), false, true, [.int .i64 0, .int .i64 0]⟩) → BKeep t o0 nx0 o → Q .normal a o nx) :
    WP (EX md0 (fun _ _ => none)) cr 30 (fun _ => none) (pathC [1, 1, 1, 0, 1, 0] (Try.f52.body.getD .skip)) a o nx (blockQ 0 Q) := by
  simp only [Try.f52, Option.getD_some, pathC]
  refine WP_loop (fun m a o nx => ∃ (i j : Nat) (g : Tag), (i : Int) ≤ hi ∧ m = (hi - i).toNat ∧ nx0 ≤ nx ∧ a 6 = .ref (j, 17) g 0 i ∧ j < nx ∧ nx0 ≤ j ∧ o (j, 17) = some (.row ⟨34, 5, g, false, true, cNds (List.replicate i x)⟩) ∧ a 3 = .ptr (r, 3) (r, 3) 0 ∧ o (r, 3) = some (.row ⟨34, 1, (r, 3), false, true, cNd (.mk kind set lo hi (x :: l))⟩) ∧ a 19 = .int .i64 hi ∧ a 20 = .int .i64 i ∧ BAt o nx t b ∧ a 0 = bp t ∧ a 5 = s5 ∧ a 4 = .ptr (r, 4) (r, 4) 0 ∧ o (r, 4) = some (.row ⟨65, 1, (r, 4), false, true, [.int .i64 0, .int .i64 0]⟩) ∧ BKeep t o0 nx0 o) hi.toNat (by omega) ?_ ?_
  · obtain ⟨i, e1, e2, e3, e4⟩ := ha6
    exact ⟨0, i, (i, 17), by omega, by omega, hnx, e1, e2, e3, e4, h3, ho3, ha19, ha20, hB, hmore⟩
  · clear hmore
    rintro m a o nx ⟨i, j, g, hi', rfl, hnx, h6, hj, hj0, hrow, h3, ho3, h19, h20, hB, h0, h5, h4, ho4, hkp⟩
    by_cases hlt : (i : Int) < hi
    · have hat := cNds_cons x l
      obtain ⟨cs, hcs⟩ : ∃ cs, cs = cNds (List.replicate i x) := ⟨_, rfl⟩
      have hln : cs.length = i * 5 := by rw [hcs, cNds_length, List.length_replicate]
      have htk : cs.take (i * 5) = cs := take_len hln
      rw [← hcs] at hrow
      have hsn : cNds (List.replicate (i + 1) x) = cs ++ cNd x := by rw [List.replicate_succ', cNds_app, cNds_one, hcs]
      simp (disch := omega) only [go_sem, ↓IntWalk.iteOmega, IntWalk.toNatUp, Nat.reduceEqDiff, Nat.reduceAdd, Nat.reduceMul, Nat.reduceSub, Nat.reduceLT, Nat.reduceLeDiff, Int.reduceToNat, Int.reduceLT, Int.reduceLE, Int.reduceEq, Int.reduceAdd, Int.reduceSub, Int.reduceMul, Int.toNat_natCast, reduceCtorEq, decide_true, decide_false, IntWalk.i64_in, IntWalk.u64_in, IntWalk.u8_in, h6, h3, ho3, h19, h20, hrow, hat, hln, htk, h0, h5, h4, ho4]
      refine ⟨_, ?_, i + 1, j, (nx + 1, 28), by omega, rfl, by omega, rfl, by omega, hj0, by rw [if_pos rfl, hsn], rfl, ?_, ?_⟩
      · omega
      · exact hB.slot2 (fun i' j' hj' => by have e1 : j' ≠ 17 := by omega
                                            have e2 : j' ≠ 27 := by omega
                                            simp [upd_app, e1, e2]) (by omega)
      · intro i' j' hi1 a1 a2 a3
        rw [← hkp i' j' hi1 a1 a2 a3]
        have e1 : i' ≠ j := by omega
        have e2 : i' ≠ nx + 1 := by omega
        simp [upd_app, e1, e2]
    · have hie : hi.toNat = i := by omega
      simp (disch := omega) only [go_sem, ↓IntWalk.iteOmega, IntWalk.toNatUp, Nat.reduceEqDiff, Nat.reduceAdd, Nat.reduceMul, Nat.reduceSub, Nat.reduceLT, Nat.reduceLeDiff, Int.reduceToNat, Int.reduceLT, Int.reduceLE, Int.reduceEq, Int.reduceAdd, Int.reduceSub, Int.reduceMul, Int.toNat_natCast, reduceCtorEq, decide_true, decide_false, IntWalk.i64_in, IntWalk.u64_in, IntWalk.u8_in, h6, h3, ho3, h19, h20, hrow]
      refine hQ _ _ _ _ (by omega) rfl ?_ (by simp (disch := omega) only [go_sem, ↓IntWalk.iteOmega, IntWalk.toNatUp, Nat.reduceEqDiff, Nat.reduceAdd, Nat.reduceMul, Nat.reduceSub, Nat.reduceLT, Nat.reduceLeDiff, Int.reduceToNat, Int.reduceLT, Int.reduceLE, Int.reduceEq, Int.reduceAdd, Int.reduceSub, Int.reduceMul, Int.toNat_natCast, reduceCtorEq, decide_true, decide_false, IntWalk.i64_in, IntWalk.u64_in, IntWalk.u8_in, h3]) ho3 (hB.new (fun _ _ _ => rfl) (by omega)) (by simp (disch := omega) only [go_sem, ↓IntWalk.iteOmega, IntWalk.toNatUp, Nat.reduceEqDiff, Nat.reduceAdd, Nat.reduceMul, Nat.reduceSub, Nat.reduceLT, Nat.reduceLeDiff, Int.reduceToNat, Int.reduceLT, Int.reduceLE, Int.reduceEq, Int.reduceAdd, Int.reduceSub, Int.reduceMul, Int.toNat_natCast, reduceCtorEq, decide_true, decide_false, IntWalk.i64_in, IntWalk.u64_in, IntWalk.u8_in, h0]) (by simp (disch := omega) only [go_sem, ↓IntWalk.iteOmega, IntWalk.toNatUp, Nat.reduceEqDiff, Nat.reduceAdd, Nat.reduceMul, Nat.reduceSub, Nat.reduceLT, Nat.reduceLeDiff, Int.reduceToNat, Int.reduceLT, Int.reduceLE, Int.reduceEq, Int.reduceAdd, Int.reduceSub, Int.reduceMul, Int.toNat_natCast, reduceCtorEq, decide_true, decide_false, IntWalk.i64_in, IntWalk.u64_in, IntWalk.u8_in, h5]) (by simp (disch := omega) only [go_sem, ↓IntWalk.iteOmega, IntWalk.toNatUp, Nat.reduceEqDiff, Nat.reduceAdd, Nat.reduceMul, Nat.reduceSub, Nat.reduceLT, Nat.reduceLeDiff, Int.reduceToNat, Int.reduceLT, Int.reduceLE, Int.reduceEq, Int.reduceAdd, Int.reduceSub, Int.reduceMul, Int.toNat_natCast, reduceCtorEq, decide_true, decide_false, IntWalk.i64_in, IntWalk.u64_in, IntWalk.u8_in, h4]) ho4 hkp
      simp (disch := omega) only [go_sem, ↓IntWalk.iteOmega, IntWalk.toNatUp, Nat.reduceEqDiff, Nat.reduceAdd, Nat.reduceMul, Nat.reduceSub, Nat.reduceLT, Nat.reduceLeDiff, Int.reduceToNat, Int.reduceLT, Int.reduceLE, Int.reduceEq, Int.reduceAdd, Int.reduceSub, Int.reduceMul, Int.toNat_natCast, reduceCtorEq, decide_true, decide_false, IntWalk.i64_in, IntWalk.u64_in, IntWalk.u8_in, h6]
      rw [hie]
      exact .inr ⟨j, g, rfl, by omega, hrow, by rw [cNds_length, List.length_replicate]⟩
theorem frees_nil (b : BS) : b.frees [] = b := by cases b; simp [BS.frees]
theorem frees_cons (b : BS) (x y : Int) (l) : b.frees ((x, y) :: l) = (b.free x y).frees l := by simp [BS.frees, BS.free]
theorem frees_app (b : BS) (k l) : b.frees (k ++ l) = (b.frees k).frees l := by simp [BS.frees]
theorem getD_drop {α : Type} (l : List α) (d : α) {i : Nat} (h : i < l.length) : l.drop i = l.getD i d :: l.drop (i + 1) := by
  rw [List.drop_eq_getElem_cons h, List.getD_eq_getElem?_getD, List.getElem?_eq_getElem h]; rfl
theorem rLinks_last {lo e : Int} {p : List (Int × Int)} {i : Nat} (h : i + 1 = p.length) : rLinks lo e i (p.drop i) = [((p.getD i (0, 0)).2, e)] ∧ p.drop (i + 1) = [] := by
  have e1 : p.drop (i + 1) = [] := List.drop_of_length_le (by omega)
  rw [getD_drop p (0, 0) (show i < p.length by omega), e1]
  exact ⟨by rw [rLinks], rfl⟩
theorem rLinks_next {lo e : Int} {p : List (Int × Int)} {i : Nat} (h : i + 1 < p.length) : rLinks lo e i (p.drop i) = (if (i : Int) + 1 ≥ lo then [((p.getD i (0, 0)).2, e)] else []) ++ ((p.getD i (0, 0)).2, (p.getD (i + 1) (0, 0)).1) :: rLinks lo e (i + 1) (p.drop (i + 1)) := by
  rw [getD_drop p (0, 0) (show i < p.length by omega), getD_drop p (0, 0) h, rLinks]
theorem BKeep.row {t o nx o'} (h : BKeep t o nx o') {i j : Nat} {x : Option AObj} (hx : o (i, j) = x) (hi : i < nx) (h1 : j = 8 → i ≠ t) (h2 : j ≠ 139) (h3 : j ≠ 16) : o' (i, j) = x := (h i j hi h1 h2 h3).trans hx
theorem rep_loop2 {cr : CallR} (hF : cr 49 = cRel RFree) {kind set lo hi e : Int} {x : Nd} {l : List Nd} {t r : Nat} {o0 : Ob} {nx0 : Nat} {T b : BS} {p : List (Int × Int)} {vp s5 : AV} {a : AAct} {o : Ob} {nx : Nat} {Q : WPost} (hlo : 0 ≤ lo ∧ lo ≤ 10) (hlen : p.length ≤ 10) (hr : nx0 ≤ r) (hrn : r < nx) (hnx : nx0 ≤ nx) (hB : BAt o nx t b) (hT : b.frees (rLinks lo e 0 p) = T) (hbf : b.f.length ≤ 1000000) (hp : HS 65 2 21 o nx vp p.length (cP p)) (h3 : a 3 = .ptr (r, 3) (r, 3) 0) (ho3 : o (r, 3) = some (.row ⟨34, 1, (r, 3), false, true, cNd (.mk kind set lo hi (x :: l))⟩)) (h7 : a 7 = vp) (h52 : a 52 = vp) (h53 : a 53 = .int .i64 p.length) (h54 : a 54 = .int .i64 0)
    (hmore : a 0 = bp t ∧ a 5 = s5 ∧ a 4 = .ptr (r, 4) (r, 4) 0 ∧ o (r, 4) = some (.row ⟨65, 1, (r, 4), false, true, [.int .i64 0, .int .i64 0]⟩) ∧ a 8 = .int .i64 e ∧ a 9 = .fn (.func 49) [bp t] [] ∧ BKeep t o0 nx0 o)
    (hQ : ∀ a o nx, nx0 ≤ nx → r < nx → a 3 = .ptr (r, 3) (r, 3) 0 → o (r, 3) = some (.row ⟨34, 1, (r, 3), false, true, cNd (.mk kind set lo hi (x :: l))⟩) → BAt o nx t T → a 0 = bp t → a 5 = s5 → a 4 = .ptr (r, 4) (r, 4) 0 → o (r, 4) = some (.row ⟨65, 1, (r, 4), false, true, [.int .i64 0, .int .i64 0]⟩) → a 8 = .int .i64 e → a 9 = .fn (.func 49) [bp t] [] → BKeep t o0 nx0 o → Q .normal a o nx) :
    WP (EX md0 (fun _ _ => none)) cr 30 (fun _ => none) (pathC [1, 1, 1, 1, 1, 1, 1, 1, 1, 0, 1, 0] (Try.f52.body.getD .skip)) a o nx (blockQ 2 Q) := by
  simp only [Try.f52, Option.getD_some, pathC]
  refine WP_loop (fun m a o nx => ∃ (i : Nat) (b : BS), i ≤ p.length ∧ m = p.length - i ∧ nx0 ≤ nx ∧ r < nx ∧ BAt o nx t b ∧ b.frees (rLinks lo e i (p.drop i)) = T ∧ b.f.length ≤ 1000000 + 2 * i ∧ HS 65 2 21 o nx vp p.length (cP p) ∧ a 3 = .ptr (r, 3) (r, 3) 0 ∧ o (r, 3) = some (.row ⟨34, 1, (r, 3), false, true, cNd (.mk kind set lo hi (x :: l))⟩) ∧ a 7 = vp ∧ a 52 = vp ∧ a 53 = .int .i64 p.length ∧ a 54 = .int .i64 i ∧ a 0 = bp t ∧ a 5 = s5 ∧ a 4 = .ptr (r, 4) (r, 4) 0 ∧ o (r, 4) = some (.row ⟨65, 1, (r, 4), false, true, [.int .i64 0, .int .i64 0]⟩) ∧ a 8 = .int .i64 e ∧ a 9 = .fn (.func 49) [bp t] [] ∧ BKeep t o0 nx0 o) p.length (by omega) ⟨0, b, by omega, by omega, hnx, hrn, hB, hT, by omega, hp, h3, ho3, h7, h52, h53, h54, hmore⟩ ?_
  clear hmore h3 ho3 h7 h52 h53 h54 hB hT hbf hp hrn hnx
  rintro m a o nx ⟨i, b, hi, rfl, hnx, hrn, hB, hT, hbf, hp, h3, ho3, h7, h52, h53, h54, h0, h5, h4, ho4, h8, h9, hkp⟩
  by_cases hlt : i < p.length
  · rcases hp with ⟨_, e1, _⟩ | ⟨i1, g1, rfl, hi1, hrow, hlen'⟩
    · omega
    · have hat := cP_at hlt
      have hsl : ∀ y z i' j', j' ≠ 11 → upd (upd o (nx + 1, 11) y) (nx + 1, 11) z (i', j') = o (i', j') := fun y z i' j' h => by simp [upd_app, h]
      have hsn : ∀ y z i' j', i' < nx → upd (upd o (nx + 1, 11) y) (nx + 1, 11) z (i', j') = o (i', j') := fun y z i' j' h => by
        have : i' ≠ nx + 1 := by omega
        simp [upd_app, this]
      by_cases hl : i + 1 = p.length
      · have hl' : ((i : Int) = (p.length : Int) - 1) = True := eq_true (by omega)
        simp (disch := omega) only [go_sem, ↓IntWalk.iteOmega, IntWalk.toNatUp, Nat.reduceEqDiff, Nat.reduceAdd, Nat.reduceMul, Nat.reduceSub, Nat.reduceLT, Nat.reduceLeDiff, Int.reduceToNat, Int.reduceLT, Int.reduceLE, Int.reduceEq, Int.reduceAdd, Int.reduceSub, Int.reduceMul, Int.toNat_natCast, reduceCtorEq, decide_true, decide_false, IntWalk.i64_in, IntWalk.u64_in, IntWalk.u8_in, h0, h3, ho3, h7, h8, h9, h52, h53, h54, hrow, hat, hF, hl']
        refine free_call (hB.slot2 (fun i' j' hj' => hsl _ _ i' j' (by omega)) (by omega)) _ _ (by omega) ?_
        intro o1 nx1 hle1 hB1 hk1
        have k1 : BKeep t o nx o1 := (BKeep.new (hsn _ _)).trans hk1 (by omega)
        simp (disch := omega) only [go_sem, ↓IntWalk.iteOmega, IntWalk.toNatUp, Nat.reduceEqDiff, Nat.reduceAdd, Nat.reduceMul, Nat.reduceSub, Nat.reduceLT, Nat.reduceLeDiff, Int.reduceToNat, Int.reduceLT, Int.reduceLE, Int.reduceEq, Int.reduceAdd, Int.reduceSub, Int.reduceMul, Int.toNat_natCast, reduceCtorEq, decide_true, decide_false, IntWalk.i64_in, IntWalk.u64_in, IntWalk.u8_in, h0, h3, ho3, h7, h8, h9, h52, h53, h54, hrow, hat, hF, hl']
        obtain ⟨q1, q2⟩ := rLinks_last (lo := lo) (e := e) hl
        rw [q1, frees_cons, frees_nil] at hT
        refine ⟨_, ?_, i + 1, _, by omega, rfl, by omega, by omega, hB1.new (fun _ _ _ => rfl) (by omega), ?_, by simp only [BS.free_f, List.length_append, List.length_cons, List.length_nil]; omega, .inr ⟨i1, g1, rfl, by omega, k1.row hrow hi1 (fun e => absurd e (by decide)) (by decide) (by decide), hlen'⟩, k1.row ho3 hrn (fun e => absurd e (by decide)) (by decide) (by decide), rfl, h5, h4, k1.row ho4 hrn (fun e => absurd e (by decide)) (by decide) (by decide), hkp.trans k1 hnx⟩
        · omega
        · rw [q2, rLinks, frees_nil, hT]
      · have hl' : ¬ (i : Int) = (p.length : Int) - 1 := by omega
        have hat2 := cP_at (show i + 1 < p.length by omega)
        have q1 := rLinks_next (lo := lo) (e := e) (show i + 1 < p.length by omega)
        by_cases hlo' : (i : Int) + 1 ≥ lo
        · rw [q1, if_pos hlo', List.singleton_append, frees_cons, frees_cons] at hT
          simp (disch := omega) only [go_sem, ↓IntWalk.iteOmega, IntWalk.toNatUp, Nat.reduceEqDiff, Nat.reduceAdd, Nat.reduceMul, Nat.reduceSub, Nat.reduceLT, Nat.reduceLeDiff, Int.reduceToNat, Int.reduceLT, Int.reduceLE, Int.reduceEq, Int.reduceAdd, Int.reduceSub, Int.reduceMul, Int.toNat_natCast, reduceCtorEq, decide_true, decide_false, IntWalk.i64_in, IntWalk.u64_in, IntWalk.u8_in, h0, h3, ho3, h7, h8, h9, h52, h53, h54, hrow, hat, hF, hl', hlo', hat2]
          refine free_call (hB.slot2 (fun i' j' hj' => hsl _ _ i' j' (by omega)) (by omega)) _ _ (by omega) ?_
          intro o1 nx1 hle1 hB1 hk1
          have k1 : BKeep t o nx o1 := (BKeep.new (hsn _ _)).trans hk1 (by omega)
          have hz1 : o1 (nx + 1, 11) = some (.row ⟨65, 1, (nx + 1, 11), false, true, [.int .i64 (p.getD i (0, 0)).1, .int .i64 (p.getD i (0, 0)).2]⟩) := by rw [hk1 _ _ (by omega) (fun e => absurd e (by decide)) (by decide) (by decide)]; exact upd_same _ _ _
          have hrow1 := k1.row hrow hi1 (fun e => absurd e (by decide)) (by decide) (by decide)
          have ho31 := k1.row ho3 hrn (fun e => absurd e (by decide)) (by decide) (by decide)
          have ho41 := k1.row ho4 hrn (fun e => absurd e (by decide)) (by decide) (by decide)
          simp (disch := omega) only [go_sem, ↓IntWalk.iteOmega, IntWalk.toNatUp, Nat.reduceEqDiff, Nat.reduceAdd, Nat.reduceMul, Nat.reduceSub, Nat.reduceLT, Nat.reduceLeDiff, Int.reduceToNat, Int.reduceLT, Int.reduceLE, Int.reduceEq, Int.reduceAdd, Int.reduceSub, Int.reduceMul, Int.toNat_natCast, reduceCtorEq, decide_true, decide_false, IntWalk.i64_in, IntWalk.u64_in, IntWalk.u8_in, h0, h3, ho31, h7, h8, h9, h52, h53, h54, hrow1, hat, hF, hl', hat2, hz1]
          refine free_call (hB1.new (fun _ _ _ => rfl) (by omega)) _ _ (by simp only [BS.free_f, List.length_append, List.length_cons, List.length_nil]; omega) ?_
          intro o2 nx2 hle2 hB2 hk2
          have k2 : BKeep t o nx o2 := k1.trans (fun i j (hi : i < nx1) => hk2 i j (by omega)) (by omega)
          simp (disch := omega) only [go_sem, ↓IntWalk.iteOmega, IntWalk.toNatUp, Nat.reduceEqDiff, Nat.reduceAdd, Nat.reduceMul, Nat.reduceSub, Nat.reduceLT, Nat.reduceLeDiff, Int.reduceToNat, Int.reduceLT, Int.reduceLE, Int.reduceEq, Int.reduceAdd, Int.reduceSub, Int.reduceMul, Int.toNat_natCast, reduceCtorEq, decide_true, decide_false, IntWalk.i64_in, IntWalk.u64_in, IntWalk.u8_in, h0, h3, ho31, h7, h8, h9, h52, h53, h54, hrow1, hat, hF, hl', hat2, hz1]
          refine ⟨_, ?_, i + 1, _, by omega, rfl, by omega, by omega, hB2.new (fun _ _ _ => rfl) (by omega), hT, by simp only [BS.free_f, List.length_append, List.length_cons, List.length_nil]; omega, .inr ⟨i1, g1, rfl, by omega, k2.row hrow hi1 (fun e => absurd e (by decide)) (by decide) (by decide), hlen'⟩, k2.row ho3 hrn (fun e => absurd e (by decide)) (by decide) (by decide), rfl, h5, h4, k2.row ho4 hrn (fun e => absurd e (by decide)) (by decide) (by decide), hkp.trans k2 hnx⟩
          omega
        · rw [q1, if_neg hlo', List.nil_append, frees_cons] at hT
          simp (disch := omega) only [go_sem, ↓IntWalk.iteOmega, IntWalk.toNatUp, Nat.reduceEqDiff, Nat.reduceAdd, Nat.reduceMul, Nat.reduceSub, Nat.reduceLT, Nat.reduceLeDiff, Int.reduceToNat, Int.reduceLT, Int.reduceLE, Int.reduceEq, Int.reduceAdd, Int.reduceSub, Int.reduceMul, Int.toNat_natCast, reduceCtorEq, decide_true, decide_false, IntWalk.i64_in, IntWalk.u64_in, IntWalk.u8_in, h0, h3, ho3, h7, h8, h9, h52, h53, h54, hrow, hat, hF, hl', hlo', hat2]
          refine free_call (hB.slot2 (fun i' j' hj' => hsl _ _ i' j' (by omega)) (by omega)) _ _ (by omega) ?_
          intro o1 nx1 hle1 hB1 hk1
          have k1 : BKeep t o nx o1 := (BKeep.new (hsn _ _)).trans hk1 (by omega)
          simp (disch := omega) only [go_sem, ↓IntWalk.iteOmega, IntWalk.toNatUp, Nat.reduceEqDiff, Nat.reduceAdd, Nat.reduceMul, Nat.reduceSub, Nat.reduceLT, Nat.reduceLeDiff, Int.reduceToNat, Int.reduceLT, Int.reduceLE, Int.reduceEq, Int.reduceAdd, Int.reduceSub, Int.reduceMul, Int.toNat_natCast, reduceCtorEq, decide_true, decide_false, IntWalk.i64_in, IntWalk.u64_in, IntWalk.u8_in, h0, h3, ho3, h7, h8, h9, h52, h53, h54, hrow, hat, hF, hl']
          refine ⟨_, ?_, i + 1, _, by omega, rfl, by omega, by omega, hB1.new (fun _ _ _ => rfl) (by omega), hT, by simp only [BS.free_f, List.length_append, List.length_cons, List.length_nil]; omega, .inr ⟨i1, g1, rfl, by omega, k1.row hrow hi1 (fun e => absurd e (by decide)) (by decide) (by decide), hlen'⟩, k1.row ho3 hrn (fun e => absurd e (by decide)) (by decide) (by decide), rfl, h5, h4, k1.row ho4 hrn (fun e => absurd e (by decide)) (by decide) (by decide), hkp.trans k1 hnx⟩
          omega
  · simp (disch := omega) only [go_sem, ↓IntWalk.iteOmega, IntWalk.toNatUp, Nat.reduceEqDiff, Nat.reduceAdd, Nat.reduceMul, Nat.reduceSub, Nat.reduceLT, Nat.reduceLeDiff, Int.reduceToNat, Int.reduceLT, Int.reduceLE, Int.reduceEq, Int.reduceAdd, Int.reduceSub, Int.reduceMul, Int.toNat_natCast, reduceCtorEq, decide_true, decide_false, IntWalk.i64_in, IntWalk.u64_in, IntWalk.u8_in, h0, h3, ho3, h7, h8, h9, h52, h53, h54]
    rw [List.drop_of_length_le (by omega), rLinks, frees_nil] at hT
    refine hQ _ _ _ (by omega) (by omega) (by simp (disch := omega) only [go_sem, ↓IntWalk.iteOmega, IntWalk.toNatUp, Nat.reduceEqDiff, Nat.reduceAdd, Nat.reduceMul, Nat.reduceSub, Nat.reduceLT, Nat.reduceLeDiff, Int.reduceToNat, Int.reduceLT, Int.reduceLE, Int.reduceEq, Int.reduceAdd, Int.reduceSub, Int.reduceMul, Int.toNat_natCast, reduceCtorEq, decide_true, decide_false, IntWalk.i64_in, IntWalk.u64_in, IntWalk.u8_in, h3]) ho3 (hT ▸ hB.new (fun _ _ _ => rfl) (by omega)) (by simp (disch := omega) only [go_sem, ↓IntWalk.iteOmega, IntWalk.toNatUp, Nat.reduceEqDiff, Nat.reduceAdd, Nat.reduceMul, Nat.reduceSub, Nat.reduceLT, Nat.reduceLeDiff, Int.reduceToNat, Int.reduceLT, Int.reduceLE, Int.reduceEq, Int.reduceAdd, Int.reduceSub, Int.reduceMul, Int.toNat_natCast, reduceCtorEq, decide_true, decide_false, IntWalk.i64_in, IntWalk.u64_in, IntWalk.u8_in, h0]) (by simp (disch := omega) only [go_sem, ↓IntWalk.iteOmega, IntWalk.toNatUp, Nat.reduceEqDiff, Nat.reduceAdd, Nat.reduceMul, Nat.reduceSub, Nat.reduceLT, Nat.reduceLeDiff, Int.reduceToNat, Int.reduceLT, Int.reduceLE, Int.reduceEq, Int.reduceAdd, Int.reduceSub, Int.reduceMul, Int.toNat_natCast, reduceCtorEq, decide_true, decide_false, IntWalk.i64_in, IntWalk.u64_in, IntWalk.u8_in, h5]) (by simp (disch := omega) only [go_sem, ↓IntWalk.iteOmega, IntWalk.toNatUp, Nat.reduceEqDiff, Nat.reduceAdd, Nat.reduceMul, Nat.reduceSub, Nat.reduceLT, Nat.reduceLeDiff, Int.reduceToNat, Int.reduceLT, Int.reduceLE, Int.reduceEq, Int.reduceAdd, Int.reduceSub, Int.reduceMul, Int.toNat_natCast, reduceCtorEq, decide_true, decide_false, IntWalk.i64_in, IntWalk.u64_in, IntWalk.u8_in, h4]) ho4 (by simp (disch := omega) only [go_sem, ↓IntWalk.iteOmega, IntWalk.toNatUp, Nat.reduceEqDiff, Nat.reduceAdd, Nat.reduceMul, Nat.reduceSub, Nat.reduceLT, Nat.reduceLeDiff, Int.reduceToNat, Int.reduceLT, Int.reduceLE, Int.reduceEq, Int.reduceAdd, Int.reduceSub, Int.reduceMul, Int.toNat_natCast, reduceCtorEq, decide_true, decide_false, IntWalk.i64_in, IntWalk.u64_in, IntWalk.u8_in, h8]) (by simp (disch := omega) only [go_sem, ↓IntWalk.iteOmega, IntWalk.toNatUp, Nat.reduceEqDiff, Nat.reduceAdd, Nat.reduceMul, Nat.reduceSub, Nat.reduceLT, Nat.reduceLeDiff, Int.reduceToNat, Int.reduceLT, Int.reduceLE, Int.reduceEq, Int.reduceAdd, Int.reduceSub, Int.reduceMul, Int.toNat_natCast, reduceCtorEq, decide_true, decide_false, IntWalk.i64_in, IntWalk.u64_in, IntWalk.u8_in, h9]) hkp
end Go.Proofs.Ytcaemgpificohaa.A
/- The builder: repeat's walk. -/
namespace Go.Proofs.Ytcaemgpificohaa.A
open Go
set_option maxRecDepth 20000
theorem bPartL_rep (x : Nd) (n : Nat) : bPartL (List.replicate n x) = List.replicate n (bPart x) := by
  induction n with
  | zero => rw [List.replicate_zero, bPartL]; rfl
  | succ n ih => rw [List.replicate_succ, bPartL, ih, List.replicate_succ]
theorem okNs_rep {x : Nd} (h : okN x = true) (n : Nat) : okNs (List.replicate n x) = true := by
  induction n with
  | zero => rw [List.replicate_zero, okNs]
  | succ n ih => rw [List.replicate_succ, okNs, h, ih]; rfl
theorem hNs_rep (x : Nd) (n : Nat) : hNs (List.replicate n x) ≤ hN x := by
  induction n with
  | zero => rw [List.replicate_zero, hNs]; omega
  | succ n ih => rw [List.replicate_succ, hNs]; omega
theorem rep_rest {cr : CallR} (hF : cr 49 = cRel RFree) {kind set lo hi n0 e : Int} {x : Nd} {l : List Nd} {t r : Nat} {o0 : Ob} {nx0 : Nat} {T b : BS} {p : List (Int × Int)} {vp : AV} {a : AAct} {o : Ob} {nx : Nat} {Q : WPost} (hlo : 0 ≤ lo ∧ lo ≤ 10) (hlen : p.length ≤ 10) (hr : nx0 ≤ r) (hrn : r < nx) (hnx : nx0 ≤ nx) (hB : BAt o nx t b) (hT : b.frees (rLinks lo e 0 p ++ (if lo = 0 then [(n0, e)] else [])) = T) (hbf : b.f.length ≤ 1000000) (hp : HS 65 2 21 o nx vp p.length (cP p)) (h3 : a 3 = .ptr (r, 3) (r, 3) 0) (ho3 : o (r, 3) = some (.row ⟨34, 1, (r, 3), false, true, cNd (.mk kind set lo hi (x :: l))⟩)) (h7 : a 7 = vp) (h52 : a 52 = vp) (h53 : a 53 = .int .i64 p.length) (h54 : a 54 = .int .i64 0)
    (hmore : a 0 = bp t ∧ a 5 = .int .i64 n0 ∧ a 4 = .ptr (r, 4) (r, 4) 0 ∧ o (r, 4) = some (.row ⟨65, 1, (r, 4), false, true, [.int .i64 0, .int .i64 0]⟩) ∧ a 8 = .int .i64 e ∧ a 9 = .fn (.func 49) [bp t] [] ∧ BKeep t o0 nx0 o)
    (hQ : ∀ a o nx, nx0 ≤ nx → BAt o nx t T → a 4 = .ptr (r, 4) (r, 4) 0 → o (r, 4) = some (.row ⟨65, 1, (r, 4), false, true, [.int .i64 n0, .int .i64 e]⟩) → BKeep t o0 nx0 o → Q .ret a o nx) :
    WP (EX md0 (fun _ _ => none)) cr 30 (fun _ => none) (pathC [1, 1, 1, 1, 1, 1, 1, 1, 1, 0, 1, 0] (Try.f52.body.getD .skip)) a o nx (blockQ 2 (thenQ (EX md0 (fun _ _ => none)) cr 30 (fun _ => none) (pathC [1, 1, 1, 1, 1, 1, 1, 1, 1, 1] (Try.f52.body.getD .skip)) Q)) := by
  obtain ⟨h0, h5, h4, ho4, h8, h9, hkp⟩ := hmore
  rw [frees_app] at hT
  obtain ⟨b1, hb1⟩ : ∃ b1, b1 = b.frees (rLinks lo e 0 p) := ⟨_, rfl⟩
  have hl1 : b1.f.length ≤ 1000030 := by
    have := rLinks_len lo e 0 p
    rw [hb1]; show (b.f ++ _).length ≤ _
    rw [List.length_append]; omega
  rw [← hb1] at hT
  refine rep_loop2 hF hlo hlen hr hrn hnx hB hb1.symm hbf hp h3 ho3 h7 h52 h53 h54 ⟨h0, h5, h4, ho4, h8, h9, hkp⟩ ?_
  clear h3 h7 h52 h53 h54 h0 h5 h4 h8 h9 ho3 ho4 hkp hp hB
  clear hnx hrn
  intro a o nx hnx hrn' h3 ho3 hB h0 h5 h4 ho4 h8 h9 hkp
  rw [cNd_mk] at ho3
  have hs4 : ∀ (o : Ob) y i j, j ≠ 4 → upd o (r, 4) y (i, j) = o (i, j) := fun o y i j hj => by simp [upd_app, hj]
  have hn4 : ∀ (o : Ob) y i j, i < nx0 → upd o (r, 4) y (i, j) = o (i, j) := fun o y i j hi => by
    have : i ≠ r := by omega
    simp [upd_app, this]
  simp only [Try.f52, Option.getD_some, pathC]
  by_cases hz : lo = 0
  · rw [if_pos hz, frees_cons, frees_nil] at hT
    simp (disch := omega) only [go_sem, ↓IntWalk.iteOmega, IntWalk.toNatUp, Nat.reduceEqDiff, Nat.reduceAdd, Nat.reduceMul, Nat.reduceSub, Nat.reduceLT, Nat.reduceLeDiff, Int.reduceToNat, Int.reduceLT, Int.reduceLE, Int.reduceEq, Int.reduceAdd, Int.reduceSub, Int.reduceMul, Int.toNat_natCast, reduceCtorEq, decide_true, decide_false, IntWalk.i64_in, IntWalk.u64_in, IntWalk.u8_in, h0, h3, h4, h5, h8, h9, ho3, hF, hz]
    refine free_call (hB.new (fun _ _ _ => rfl) (by omega)) _ _ (by omega) ?_
    intro o1 nx1 hle1 hB1 hk1
    have k1 : BKeep t o nx o1 := fun i j (hi : i < nx) => hk1 i j (by omega)
    have ho41 := k1.row ho4 hrn' (fun e => absurd e (by decide)) (by decide) (by decide)
    simp (disch := omega) only [go_sem, ↓IntWalk.iteOmega, IntWalk.toNatUp, Nat.reduceEqDiff, Nat.reduceAdd, Nat.reduceMul, Nat.reduceSub, Nat.reduceLT, Nat.reduceLeDiff, Int.reduceToNat, Int.reduceLT, Int.reduceLE, Int.reduceEq, Int.reduceAdd, Int.reduceSub, Int.reduceMul, Int.toNat_natCast, reduceCtorEq, decide_true, decide_false, IntWalk.i64_in, IntWalk.u64_in, IntWalk.u8_in, h0, h3, h4, h5, h8, h9, ho3, hF, hz, ho41]
    exact hQ _ _ _ (by omega) (hT ▸ hB1.slot2 (fun i j hj => hs4 o1 _ i j (by omega)) (by omega)) (by simp (disch := omega) only [go_sem, ↓IntWalk.iteOmega, IntWalk.toNatUp, Nat.reduceEqDiff, Nat.reduceAdd, Nat.reduceMul, Nat.reduceSub, Nat.reduceLT, Nat.reduceLeDiff, Int.reduceToNat, Int.reduceLT, Int.reduceLE, Int.reduceEq, Int.reduceAdd, Int.reduceSub, Int.reduceMul, Int.toNat_natCast, reduceCtorEq, decide_true, decide_false, IntWalk.i64_in, IntWalk.u64_in, IntWalk.u8_in, h4]) (upd_same _ _ _) ((hkp.trans k1 hnx).trans (fun i j hi _ _ _ => hn4 o1 _ i j hi) (by omega))
  · rw [if_neg hz, frees_nil] at hT
    simp (disch := omega) only [go_sem, ↓IntWalk.iteOmega, IntWalk.toNatUp, Nat.reduceEqDiff, Nat.reduceAdd, Nat.reduceMul, Nat.reduceSub, Nat.reduceLT, Nat.reduceLeDiff, Int.reduceToNat, Int.reduceLT, Int.reduceLE, Int.reduceEq, Int.reduceAdd, Int.reduceSub, Int.reduceMul, Int.toNat_natCast, reduceCtorEq, decide_true, decide_false, IntWalk.i64_in, IntWalk.u64_in, IntWalk.u8_in, h0, h3, h4, h5, h8, h9, ho3, hF, hz, ho4]
    exact hQ _ _ _ (by omega) (hT ▸ hB.slot2 (fun i j hj => hs4 o _ i j (by omega)) (by omega)) (by simp (disch := omega) only [go_sem, ↓IntWalk.iteOmega, IntWalk.toNatUp, Nat.reduceEqDiff, Nat.reduceAdd, Nat.reduceMul, Nat.reduceSub, Nat.reduceLT, Nat.reduceLeDiff, Int.reduceToNat, Int.reduceLT, Int.reduceLE, Int.reduceEq, Int.reduceAdd, Int.reduceSub, Int.reduceMul, Int.toNat_natCast, reduceCtorEq, decide_true, decide_false, IntWalk.i64_in, IntWalk.u64_in, IntWalk.u8_in, h4]) (upd_same _ _ _) (hkp.trans (fun i j hi _ _ _ => hn4 o _ i j hi) (by omega))
theorem rep_mid {cr : CallR} (hF : cr 49 = cRel RFree) {kind set lo hi : Int} {x : Nd} {l : List Nd} {t nx nx5 : Nat} {o o5 : Ob} {T b : BS} {r : List (Int × Int) × BS} {v3 : AV} {a : AAct} {Q : WPost} (hlo : 0 ≤ lo ∧ lo ≤ 10) (b3 : r.1.length ≤ 10) (htn : t < nx) (hle : nx < nx5) (hB5 : BAt o5 nx5 t r.2.state) (hbr : r.2.state.frees (headL b.n r.1 ++ rLinks lo r.2.n 0 r.1 ++ (if lo = 0 then [((b.n : Int), (r.2.n : Int))] else [])) = T) (hbf : r.2.state.f.length ≤ 900000) (hv5 : HS 65 2 21 o5 nx5 v3 r.1.length (cP r.1)) (ha3 : a 3 = .ptr (nx, 3) (nx, 3) 0) (hx3'' : o5 (nx, 3) = some (.row ⟨34, 1, (nx, 3), false, true, cNd (.mk kind set lo hi (x :: l))⟩)) (ha7 : a 7 = v3)
    (ha0 : a 0 = bp t) (ha5 : a 5 = .int .i64 b.n) (ha4 : a 4 = .ptr (nx, 4) (nx, 4) 0) (hx4' : o5 (nx, 4) = some (.row ⟨65, 1, (nx, 4), false, true, [.int .i64 0, .int .i64 0]⟩)) (ha8 : a 8 = .int .i64 r.2.n) (k05 : BKeep t o nx o5)
    (hfin : ∀ a o' nx', nx ≤ nx' → BAt o' nx' t T → a 4 = .ptr (nx, 4) (nx, 4) 0 → o' (nx, 4) = some (.row ⟨65, 1, (nx, 4), false, true, [.int .i64 b.n, .int .i64 r.2.n]⟩) → BKeep t o nx o' → Q .ret a o' nx') :
    WP (EX md0 (fun _ _ => none)) cr 30 (fun _ => none) (pathC [1, 1, 1, 1, 1, 1, 1] (Try.f52.body.getD .skip)) a o5 nx5 Q := by
  simp only [Try.f52, Option.getD_some, pathC]
  have hT0 : headL (b.n : Int) r.1 = [] ∧ r.1 = [] ∨ ∃ p0 pl, r.1 = p0 :: pl ∧ headL (b.n : Int) r.1 = [((b.n : Int), p0.1)] := by
    cases r.1 with
    | nil => exact .inl ⟨rfl, rfl⟩
    | cons p0 pl => exact .inr ⟨p0, pl, rfl, rfl⟩
  rcases hT0 with ⟨q1, q2⟩ | ⟨p0, pl, q1, q2⟩
  · rw [q1, List.nil_append] at hbr
    rcases hv5 with ⟨rfl, _, _⟩ | ⟨i1, g1, rfl, hi1, hrow, hlen'⟩
    · simp (disch := omega) only [go_sem, ↓IntWalk.iteOmega, IntWalk.toNatUp, Nat.reduceEqDiff, Nat.reduceAdd, Nat.reduceMul, Nat.reduceSub, Nat.reduceLT, Nat.reduceLeDiff, Int.reduceToNat, Int.reduceLT, Int.reduceLE, Int.reduceEq, Int.reduceAdd, Int.reduceSub, Int.reduceMul, Int.toNat_natCast, reduceCtorEq, decide_true, decide_false, IntWalk.i64_in, IntWalk.u64_in, IntWalk.u8_in, ha0, ha3, ha4, ha5, ha7, ha8]
      refine rep_rest hF hlo b3 (Nat.le_refl nx) (by omega) (by omega) (hB5.new (fun _ _ _ => rfl) (by omega)) hbr (by omega) (.inl ⟨rfl, by rw [q2]; rfl, by rw [q2]; rfl⟩) (by simp (disch := omega) only [go_sem, ↓IntWalk.iteOmega, IntWalk.toNatUp, Nat.reduceEqDiff, Nat.reduceAdd, Nat.reduceMul, Nat.reduceSub, Nat.reduceLT, Nat.reduceLeDiff, Int.reduceToNat, Int.reduceLT, Int.reduceLE, Int.reduceEq, Int.reduceAdd, Int.reduceSub, Int.reduceMul, Int.toNat_natCast, reduceCtorEq, decide_true, decide_false, IntWalk.i64_in, IntWalk.u64_in, IntWalk.u8_in, ha3]) hx3'' (by simp (disch := omega) only [go_sem, ↓IntWalk.iteOmega, IntWalk.toNatUp, Nat.reduceEqDiff, Nat.reduceAdd, Nat.reduceMul, Nat.reduceSub, Nat.reduceLT, Nat.reduceLeDiff, Int.reduceToNat, Int.reduceLT, Int.reduceLE, Int.reduceEq, Int.reduceAdd, Int.reduceSub, Int.reduceMul, Int.toNat_natCast, reduceCtorEq, decide_true, decide_false, IntWalk.i64_in, IntWalk.u64_in, IntWalk.u8_in, ha7]) (by simp (disch := omega) only [go_sem, ↓IntWalk.iteOmega, IntWalk.toNatUp, Nat.reduceEqDiff, Nat.reduceAdd, Nat.reduceMul, Nat.reduceSub, Nat.reduceLT, Nat.reduceLeDiff, Int.reduceToNat, Int.reduceLT, Int.reduceLE, Int.reduceEq, Int.reduceAdd, Int.reduceSub, Int.reduceMul, Int.toNat_natCast, reduceCtorEq, decide_true, decide_false, IntWalk.i64_in, IntWalk.u64_in, IntWalk.u8_in]) (by rw [q2]; simp (disch := omega) only [go_sem, ↓IntWalk.iteOmega, IntWalk.toNatUp, Nat.reduceEqDiff, Nat.reduceAdd, Nat.reduceMul, Nat.reduceSub, Nat.reduceLT, Nat.reduceLeDiff, Int.reduceToNat, Int.reduceLT, Int.reduceLE, Int.reduceEq, Int.reduceAdd, Int.reduceSub, Int.reduceMul, Int.toNat_natCast, reduceCtorEq, decide_true, decide_false, IntWalk.i64_in, IntWalk.u64_in, IntWalk.u8_in]) (by simp (disch := omega) only [go_sem, ↓IntWalk.iteOmega, IntWalk.toNatUp, Nat.reduceEqDiff, Nat.reduceAdd, Nat.reduceMul, Nat.reduceSub, Nat.reduceLT, Nat.reduceLeDiff, Int.reduceToNat, Int.reduceLT, Int.reduceLE, Int.reduceEq, Int.reduceAdd, Int.reduceSub, Int.reduceMul, Int.toNat_natCast, reduceCtorEq, decide_true, decide_false, IntWalk.i64_in, IntWalk.u64_in, IntWalk.u8_in]) ⟨by simp (disch := omega) only [go_sem, ↓IntWalk.iteOmega, IntWalk.toNatUp, Nat.reduceEqDiff, Nat.reduceAdd, Nat.reduceMul, Nat.reduceSub, Nat.reduceLT, Nat.reduceLeDiff, Int.reduceToNat, Int.reduceLT, Int.reduceLE, Int.reduceEq, Int.reduceAdd, Int.reduceSub, Int.reduceMul, Int.toNat_natCast, reduceCtorEq, decide_true, decide_false, IntWalk.i64_in, IntWalk.u64_in, IntWalk.u8_in, ha0], by simp (disch := omega) only [go_sem, ↓IntWalk.iteOmega, IntWalk.toNatUp, Nat.reduceEqDiff, Nat.reduceAdd, Nat.reduceMul, Nat.reduceSub, Nat.reduceLT, Nat.reduceLeDiff, Int.reduceToNat, Int.reduceLT, Int.reduceLE, Int.reduceEq, Int.reduceAdd, Int.reduceSub, Int.reduceMul, Int.toNat_natCast, reduceCtorEq, decide_true, decide_false, IntWalk.i64_in, IntWalk.u64_in, IntWalk.u8_in, ha5], by simp (disch := omega) only [go_sem, ↓IntWalk.iteOmega, IntWalk.toNatUp, Nat.reduceEqDiff, Nat.reduceAdd, Nat.reduceMul, Nat.reduceSub, Nat.reduceLT, Nat.reduceLeDiff, Int.reduceToNat, Int.reduceLT, Int.reduceLE, Int.reduceEq, Int.reduceAdd, Int.reduceSub, Int.reduceMul, Int.toNat_natCast, reduceCtorEq, decide_true, decide_false, IntWalk.i64_in, IntWalk.u64_in, IntWalk.u8_in, ha4], hx4', by simp (disch := omega) only [go_sem, ↓IntWalk.iteOmega, IntWalk.toNatUp, Nat.reduceEqDiff, Nat.reduceAdd, Nat.reduceMul, Nat.reduceSub, Nat.reduceLT, Nat.reduceLeDiff, Int.reduceToNat, Int.reduceLT, Int.reduceLE, Int.reduceEq, Int.reduceAdd, Int.reduceSub, Int.reduceMul, Int.toNat_natCast, reduceCtorEq, decide_true, decide_false, IntWalk.i64_in, IntWalk.u64_in, IntWalk.u8_in, ha8], by simp (disch := omega) only [go_sem, ↓IntWalk.iteOmega, IntWalk.toNatUp, Nat.reduceEqDiff, Nat.reduceAdd, Nat.reduceMul, Nat.reduceSub, Nat.reduceLT, Nat.reduceLeDiff, Int.reduceToNat, Int.reduceLT, Int.reduceLE, Int.reduceEq, Int.reduceAdd, Int.reduceSub, Int.reduceMul, Int.toNat_natCast, reduceCtorEq, decide_true, decide_false, IntWalk.i64_in, IntWalk.u64_in, IntWalk.u8_in, ha0], k05⟩ hfin
    · have hz : ¬ (0 : Int) < r.1.length := by rw [q2]; decide
      simp (disch := omega) only [go_sem, ↓IntWalk.iteOmega, IntWalk.toNatUp, Nat.reduceEqDiff, Nat.reduceAdd, Nat.reduceMul, Nat.reduceSub, Nat.reduceLT, Nat.reduceLeDiff, Int.reduceToNat, Int.reduceLT, Int.reduceLE, Int.reduceEq, Int.reduceAdd, Int.reduceSub, Int.reduceMul, Int.toNat_natCast, reduceCtorEq, decide_true, decide_false, IntWalk.i64_in, IntWalk.u64_in, IntWalk.u8_in, ha0, ha3, ha4, ha5, ha7, ha8, hz]
      refine rep_rest hF hlo b3 (Nat.le_refl nx) (by omega) (by omega) (hB5.new (fun _ _ _ => rfl) (by omega)) hbr (by omega) (.inr ⟨i1, g1, rfl, by omega, hrow, hlen'⟩) (by simp (disch := omega) only [go_sem, ↓IntWalk.iteOmega, IntWalk.toNatUp, Nat.reduceEqDiff, Nat.reduceAdd, Nat.reduceMul, Nat.reduceSub, Nat.reduceLT, Nat.reduceLeDiff, Int.reduceToNat, Int.reduceLT, Int.reduceLE, Int.reduceEq, Int.reduceAdd, Int.reduceSub, Int.reduceMul, Int.toNat_natCast, reduceCtorEq, decide_true, decide_false, IntWalk.i64_in, IntWalk.u64_in, IntWalk.u8_in, ha3]) hx3'' (by simp (disch := omega) only [go_sem, ↓IntWalk.iteOmega, IntWalk.toNatUp, Nat.reduceEqDiff, Nat.reduceAdd, Nat.reduceMul, Nat.reduceSub, Nat.reduceLT, Nat.reduceLeDiff, Int.reduceToNat, Int.reduceLT, Int.reduceLE, Int.reduceEq, Int.reduceAdd, Int.reduceSub, Int.reduceMul, Int.toNat_natCast, reduceCtorEq, decide_true, decide_false, IntWalk.i64_in, IntWalk.u64_in, IntWalk.u8_in, ha7]) (by simp (disch := omega) only [go_sem, ↓IntWalk.iteOmega, IntWalk.toNatUp, Nat.reduceEqDiff, Nat.reduceAdd, Nat.reduceMul, Nat.reduceSub, Nat.reduceLT, Nat.reduceLeDiff, Int.reduceToNat, Int.reduceLT, Int.reduceLE, Int.reduceEq, Int.reduceAdd, Int.reduceSub, Int.reduceMul, Int.toNat_natCast, reduceCtorEq, decide_true, decide_false, IntWalk.i64_in, IntWalk.u64_in, IntWalk.u8_in]) (by simp (disch := omega) only [go_sem, ↓IntWalk.iteOmega, IntWalk.toNatUp, Nat.reduceEqDiff, Nat.reduceAdd, Nat.reduceMul, Nat.reduceSub, Nat.reduceLT, Nat.reduceLeDiff, Int.reduceToNat, Int.reduceLT, Int.reduceLE, Int.reduceEq, Int.reduceAdd, Int.reduceSub, Int.reduceMul, Int.toNat_natCast, reduceCtorEq, decide_true, decide_false, IntWalk.i64_in, IntWalk.u64_in, IntWalk.u8_in]) (by simp (disch := omega) only [go_sem, ↓IntWalk.iteOmega, IntWalk.toNatUp, Nat.reduceEqDiff, Nat.reduceAdd, Nat.reduceMul, Nat.reduceSub, Nat.reduceLT, Nat.reduceLeDiff, Int.reduceToNat, Int.reduceLT, Int.reduceLE, Int.reduceEq, Int.reduceAdd, Int.reduceSub, Int.reduceMul, Int.toNat_natCast, reduceCtorEq, decide_true, decide_false, IntWalk.i64_in, IntWalk.u64_in, IntWalk.u8_in]) ⟨by simp (disch := omega) only [go_sem, ↓IntWalk.iteOmega, IntWalk.toNatUp, Nat.reduceEqDiff, Nat.reduceAdd, Nat.reduceMul, Nat.reduceSub, Nat.reduceLT, Nat.reduceLeDiff, Int.reduceToNat, Int.reduceLT, Int.reduceLE, Int.reduceEq, Int.reduceAdd, Int.reduceSub, Int.reduceMul, Int.toNat_natCast, reduceCtorEq, decide_true, decide_false, IntWalk.i64_in, IntWalk.u64_in, IntWalk.u8_in, ha0], by simp (disch := omega) only [go_sem, ↓IntWalk.iteOmega, IntWalk.toNatUp, Nat.reduceEqDiff, Nat.reduceAdd, Nat.reduceMul, Nat.reduceSub, Nat.reduceLT, Nat.reduceLeDiff, Int.reduceToNat, Int.reduceLT, Int.reduceLE, Int.reduceEq, Int.reduceAdd, Int.reduceSub, Int.reduceMul, Int.toNat_natCast, reduceCtorEq, decide_true, decide_false, IntWalk.i64_in, IntWalk.u64_in, IntWalk.u8_in, ha5], by simp (disch := omega) only [go_sem, ↓IntWalk.iteOmega, IntWalk.toNatUp, Nat.reduceEqDiff, Nat.reduceAdd, Nat.reduceMul, Nat.reduceSub, Nat.reduceLT, Nat.reduceLeDiff, Int.reduceToNat, Int.reduceLT, Int.reduceLE, Int.reduceEq, Int.reduceAdd, Int.reduceSub, Int.reduceMul, Int.toNat_natCast, reduceCtorEq, decide_true, decide_false, IntWalk.i64_in, IntWalk.u64_in, IntWalk.u8_in, ha4], hx4', by simp (disch := omega) only [go_sem, ↓IntWalk.iteOmega, IntWalk.toNatUp, Nat.reduceEqDiff, Nat.reduceAdd, Nat.reduceMul, Nat.reduceSub, Nat.reduceLT, Nat.reduceLeDiff, Int.reduceToNat, Int.reduceLT, Int.reduceLE, Int.reduceEq, Int.reduceAdd, Int.reduceSub, Int.reduceMul, Int.toNat_natCast, reduceCtorEq, decide_true, decide_false, IntWalk.i64_in, IntWalk.u64_in, IntWalk.u8_in, ha8], by simp (disch := omega) only [go_sem, ↓IntWalk.iteOmega, IntWalk.toNatUp, Nat.reduceEqDiff, Nat.reduceAdd, Nat.reduceMul, Nat.reduceSub, Nat.reduceLT, Nat.reduceLeDiff, Int.reduceToNat, Int.reduceLT, Int.reduceLE, Int.reduceEq, Int.reduceAdd, Int.reduceSub, Int.reduceMul, Int.toNat_natCast, reduceCtorEq, decide_true, decide_false, IntWalk.i64_in, IntWalk.u64_in, IntWalk.u8_in, ha0], k05⟩ hfin
  · rw [q2, List.append_assoc, List.singleton_append, frees_cons] at hbr
    rcases hv5 with ⟨rfl, e, _⟩ | ⟨i1, g1, rfl, hi1, hrow, hlen'⟩
    · rw [q1] at e; simp at e
    · have hz : (0 : Int) < r.1.length := by rw [q1]; simp
      have hat : cP r.1 = .int .i64 p0.1 :: .int .i64 p0.2 :: cP pl := by rw [q1]; rfl
      simp (disch := omega) only [go_sem, ↓IntWalk.iteOmega, IntWalk.toNatUp, Nat.reduceEqDiff, Nat.reduceAdd, Nat.reduceMul, Nat.reduceSub, Nat.reduceLT, Nat.reduceLeDiff, Int.reduceToNat, Int.reduceLT, Int.reduceLE, Int.reduceEq, Int.reduceAdd, Int.reduceSub, Int.reduceMul, Int.toNat_natCast, reduceCtorEq, decide_true, decide_false, IntWalk.i64_in, IntWalk.u64_in, IntWalk.u8_in, ha0, ha3, ha4, ha5, ha7, ha8, hz, hrow, hat, hF]
      refine free_call (hB5.new (fun _ _ _ => rfl) (by omega)) _ _ (by omega) ?_
      intro o6 nx6 hle6 hB6 k6
      have k06 : BKeep t o nx o6 := k05.trans (fun i j (hi : i < nx5) => k6 i j (by omega)) (by omega)
      have hx36 := k6.row hx3'' (by omega) (fun e => absurd e (by decide)) (by decide) (by decide)
      have hx46 := k6.row hx4' (by omega) (fun e => absurd e (by decide)) (by decide) (by decide)
      have hrow6 := k6.row hrow (by omega) (fun e => absurd e (by decide)) (by decide) (by decide)
      simp (disch := omega) only [go_sem, ↓IntWalk.iteOmega, IntWalk.toNatUp, Nat.reduceEqDiff, Nat.reduceAdd, Nat.reduceMul, Nat.reduceSub, Nat.reduceLT, Nat.reduceLeDiff, Int.reduceToNat, Int.reduceLT, Int.reduceLE, Int.reduceEq, Int.reduceAdd, Int.reduceSub, Int.reduceMul, Int.toNat_natCast, reduceCtorEq, decide_true, decide_false, IntWalk.i64_in, IntWalk.u64_in, IntWalk.u8_in, ha0, ha3, ha4, ha5, ha7, ha8, hz, hrow, hat, hF]
      refine rep_rest hF hlo b3 (Nat.le_refl nx) (by omega) (by omega) (hB6.new (fun _ _ _ => rfl) (by omega)) hbr (by simp only [BS.free_f, List.length_append, List.length_cons, List.length_nil]; omega) (.inr ⟨i1, g1, rfl, by omega, hrow6, hlen'⟩) (by simp (disch := omega) only [go_sem, ↓IntWalk.iteOmega, IntWalk.toNatUp, Nat.reduceEqDiff, Nat.reduceAdd, Nat.reduceMul, Nat.reduceSub, Nat.reduceLT, Nat.reduceLeDiff, Int.reduceToNat, Int.reduceLT, Int.reduceLE, Int.reduceEq, Int.reduceAdd, Int.reduceSub, Int.reduceMul, Int.toNat_natCast, reduceCtorEq, decide_true, decide_false, IntWalk.i64_in, IntWalk.u64_in, IntWalk.u8_in, ha3]) hx36 (by simp (disch := omega) only [go_sem, ↓IntWalk.iteOmega, IntWalk.toNatUp, Nat.reduceEqDiff, Nat.reduceAdd, Nat.reduceMul, Nat.reduceSub, Nat.reduceLT, Nat.reduceLeDiff, Int.reduceToNat, Int.reduceLT, Int.reduceLE, Int.reduceEq, Int.reduceAdd, Int.reduceSub, Int.reduceMul, Int.toNat_natCast, reduceCtorEq, decide_true, decide_false, IntWalk.i64_in, IntWalk.u64_in, IntWalk.u8_in, ha7]) (by simp (disch := omega) only [go_sem, ↓IntWalk.iteOmega, IntWalk.toNatUp, Nat.reduceEqDiff, Nat.reduceAdd, Nat.reduceMul, Nat.reduceSub, Nat.reduceLT, Nat.reduceLeDiff, Int.reduceToNat, Int.reduceLT, Int.reduceLE, Int.reduceEq, Int.reduceAdd, Int.reduceSub, Int.reduceMul, Int.toNat_natCast, reduceCtorEq, decide_true, decide_false, IntWalk.i64_in, IntWalk.u64_in, IntWalk.u8_in]) (by simp (disch := omega) only [go_sem, ↓IntWalk.iteOmega, IntWalk.toNatUp, Nat.reduceEqDiff, Nat.reduceAdd, Nat.reduceMul, Nat.reduceSub, Nat.reduceLT, Nat.reduceLeDiff, Int.reduceToNat, Int.reduceLT, Int.reduceLE, Int.reduceEq, Int.reduceAdd, Int.reduceSub, Int.reduceMul, Int.toNat_natCast, reduceCtorEq, decide_true, decide_false, IntWalk.i64_in, IntWalk.u64_in, IntWalk.u8_in]) (by simp (disch := omega) only [go_sem, ↓IntWalk.iteOmega, IntWalk.toNatUp, Nat.reduceEqDiff, Nat.reduceAdd, Nat.reduceMul, Nat.reduceSub, Nat.reduceLT, Nat.reduceLeDiff, Int.reduceToNat, Int.reduceLT, Int.reduceLE, Int.reduceEq, Int.reduceAdd, Int.reduceSub, Int.reduceMul, Int.toNat_natCast, reduceCtorEq, decide_true, decide_false, IntWalk.i64_in, IntWalk.u64_in, IntWalk.u8_in]) ⟨by simp (disch := omega) only [go_sem, ↓IntWalk.iteOmega, IntWalk.toNatUp, Nat.reduceEqDiff, Nat.reduceAdd, Nat.reduceMul, Nat.reduceSub, Nat.reduceLT, Nat.reduceLeDiff, Int.reduceToNat, Int.reduceLT, Int.reduceLE, Int.reduceEq, Int.reduceAdd, Int.reduceSub, Int.reduceMul, Int.toNat_natCast, reduceCtorEq, decide_true, decide_false, IntWalk.i64_in, IntWalk.u64_in, IntWalk.u8_in, ha0], by simp (disch := omega) only [go_sem, ↓IntWalk.iteOmega, IntWalk.toNatUp, Nat.reduceEqDiff, Nat.reduceAdd, Nat.reduceMul, Nat.reduceSub, Nat.reduceLT, Nat.reduceLeDiff, Int.reduceToNat, Int.reduceLT, Int.reduceLE, Int.reduceEq, Int.reduceAdd, Int.reduceSub, Int.reduceMul, Int.toNat_natCast, reduceCtorEq, decide_true, decide_false, IntWalk.i64_in, IntWalk.u64_in, IntWalk.u8_in, ha5], by simp (disch := omega) only [go_sem, ↓IntWalk.iteOmega, IntWalk.toNatUp, Nat.reduceEqDiff, Nat.reduceAdd, Nat.reduceMul, Nat.reduceSub, Nat.reduceLT, Nat.reduceLeDiff, Int.reduceToNat, Int.reduceLT, Int.reduceLE, Int.reduceEq, Int.reduceAdd, Int.reduceSub, Int.reduceMul, Int.toNat_natCast, reduceCtorEq, decide_true, decide_false, IntWalk.i64_in, IntWalk.u64_in, IntWalk.u8_in, ha4], hx46, by simp (disch := omega) only [go_sem, ↓IntWalk.iteOmega, IntWalk.toNatUp, Nat.reduceEqDiff, Nat.reduceAdd, Nat.reduceMul, Nat.reduceSub, Nat.reduceLT, Nat.reduceLeDiff, Int.reduceToNat, Int.reduceLT, Int.reduceLE, Int.reduceEq, Int.reduceAdd, Int.reduceSub, Int.reduceMul, Int.toNat_natCast, reduceCtorEq, decide_true, decide_false, IntWalk.i64_in, IntWalk.u64_in, IntWalk.u8_in, ha8], by simp (disch := omega) only [go_sem, ↓IntWalk.iteOmega, IntWalk.toNatUp, Nat.reduceEqDiff, Nat.reduceAdd, Nat.reduceMul, Nat.reduceSub, Nat.reduceLT, Nat.reduceLeDiff, Int.reduceToNat, Int.reduceLT, Int.reduceLE, Int.reduceEq, Int.reduceAdd, Int.reduceSub, Int.reduceMul, Int.toNat_natCast, reduceCtorEq, decide_true, decide_false, IntWalk.i64_in, IntWalk.u64_in, IntWalk.u8_in, ha0], k06⟩ hfin
theorem rep_ok {kind set lo hi : Int} {x : Nd} {l : List Nd} (hk : okN x = true) (hlo : 0 ≤ lo ∧ lo ≤ 10) (hhi : 0 ≤ hi ∧ hi ≤ 10) (hpart : ∀ t o nx b, BAt o nx t b → Pre (hN x) b → ∃ v H', RPartB [bp t, nodeV x] ⟨o, nx⟩ v H') {t : Nat} {o : Ob} {nx : Nat} {b : BS} (h : BAt o nx t b) (hp : Pre (hN x + 1) b) (hh : hN x ≤ 1000) :
    ∃ v H', RRep [bp t, nodeV (.mk kind set lo hi (x :: l))] ⟨o, nx⟩ v H' := by
  obtain ⟨cr, hcr⟩ : ∃ cr, cr = tabLookR [(50, cRel RState), (49, cRel RFree), (33, cRel RFull), (48, cRel RParts)] := ⟨_, rfl⟩
  have hS : cr 50 = cRel RState := by rw [hcr]; rfl
  have hF : cr 49 = cRel RFree := by rw [hcr]; rfl
  have hU : cr 33 = cRel RFull := by rw [hcr]; rfl
  have hP : cr 48 = cRel RParts := by rw [hcr]; rfl
  obtain ⟨nd, hnd⟩ : ∃ nd, nd = Nd.mk kind set lo hi (x :: l) := ⟨_, rfl⟩
  have hcn : cNd nd = [.int .i64 kind, .int .i64 set, .int .i64 lo, .int .i64 hi, slN (x :: l)] := by rw [hnd, cNd_mk]
  obtain ⟨v, H', h1, h2⟩ := okR_of_WP (E := EX md0 (fun _ _ => none)) (cr := cr) (cp_none _) (hcr ▸ crRep_ok) mixed (k := 30) (args := [bp t, nodeV nd]) (o := o) (nx := nx) (Post := fun v o' nx' => v = bE (bRepeat lo hi.toNat (bPart x) b).1 ∧ BTo t (bRepeat lo hi.toNat (bPart x) b).2 ⟨o, nx⟩ ⟨o', nx'⟩) Try.func52 (lookRep _) rfl (by
    clear hcr
    simp only [Try.f52, Option.getD_some]
    have hnew : ∀ y z, ∀ i j, i < nx → upd (upd o (nx, 3) y) (nx, 4) z (i, j) = o (i, j) := fun y z i j hi => by simp (disch := omega) only [upd_fst]
    have e1 : b.state.n = b.n + 1 := rfl
    have e2 : b.state.f.length = b.f.length := rfl
    have e3 : b.state.s.length = b.s.length := rfl
    have hp1 := hp.f
    have hp2 := hp.s
    have hp3 := hp.n
    have htn : t < nx := by obtain ⟨vS, vF, h⟩ := h; exact h.lt
    simp (disch := omega) only [go_sem, ↓IntWalk.iteOmega, IntWalk.toNatUp, Nat.reduceEqDiff, Nat.reduceAdd, Nat.reduceMul, Nat.reduceSub, Nat.reduceLT, Nat.reduceLeDiff, Int.reduceToNat, Int.reduceLT, Int.reduceLE, Int.reduceEq, Int.reduceAdd, Int.reduceSub, Int.reduceMul, Int.toNat_natCast, reduceCtorEq, decide_true, decide_false, IntWalk.i64_in, IntWalk.u64_in, IntWalk.u8_in, hS]
    refine state_call (h.new (hnew _ _) (by omega)) (by omega) ?_
    intro o1 nx1 hle1 hB1 hk1
    have k1 : BKeep t o nx o1 := (BKeep.new (hnew (.row ⟨34, 1, (nx, 3), false, true, cNd nd⟩) (.row ⟨65, 1, (nx, 4), false, true, [.int .i64 0, .int .i64 0]⟩))).trans hk1 (by omega)
    have hx3 : o1 (nx, 3) = some (.row ⟨34, 1, (nx, 3), false, true, cNd nd⟩) := by rw [hk1 _ _ (by omega) (fun e => absurd e (by decide)) (by decide) (by decide)]; simp [upd_app]
    have hx4 : o1 (nx, 4) = some (.row ⟨65, 1, (nx, 4), false, true, [.int .i64 0, .int .i64 0]⟩) := by rw [hk1 _ _ (by omega) (fun e => absurd e (by decide)) (by decide) (by decide)]; simp [upd_app]
    have hx3' := hx3
    rw [hcn] at hx3'
    simp (disch := omega) only [go_sem, ↓IntWalk.iteOmega, IntWalk.toNatUp, Nat.reduceEqDiff, Nat.reduceAdd, Nat.reduceMul, Nat.reduceSub, Nat.reduceLT, Nat.reduceLeDiff, Int.reduceToNat, Int.reduceLT, Int.reduceLE, Int.reduceEq, Int.reduceAdd, Int.reduceSub, Int.reduceMul, Int.toNat_natCast, reduceCtorEq, decide_true, decide_false, IntWalk.i64_in, IntWalk.u64_in, IntWalk.u8_in, hx3']
    have hn17 : ∀ y i j, i < nx1 → upd o1 (nx1, 17) y (i, j) = o1 (i, j) := fun y i j hi => by simp (disch := omega) only [upd_fst]
    rw [hnd] at hx3
    refine rep_loop1 (kind := kind) (set := set) (lo := lo) (hi := hi) (x := x) (l := l) (r := nx) (t := t) (o0 := o) (nx0 := nx) (b := b.state) (s5 := .int .i64 b.n) hhi (Nat.le_refl _) (by omega) (hB1.new (hn17 _) (by omega)) (by simp (disch := omega) only [go_sem, ↓IntWalk.iteOmega, IntWalk.toNatUp, Nat.reduceEqDiff, Nat.reduceAdd, Nat.reduceMul, Nat.reduceSub, Nat.reduceLT, Nat.reduceLeDiff, Int.reduceToNat, Int.reduceLT, Int.reduceLE, Int.reduceEq, Int.reduceAdd, Int.reduceSub, Int.reduceMul, Int.toNat_natCast, reduceCtorEq, decide_true, decide_false, IntWalk.i64_in, IntWalk.u64_in, IntWalk.u8_in]) (by rw [hn17 _ _ _ (by omega)]; exact hx3) ⟨nx1, by simp (disch := omega) only [go_sem, ↓IntWalk.iteOmega, IntWalk.toNatUp, Nat.reduceEqDiff, Nat.reduceAdd, Nat.reduceMul, Nat.reduceSub, Nat.reduceLT, Nat.reduceLeDiff, Int.reduceToNat, Int.reduceLT, Int.reduceLE, Int.reduceEq, Int.reduceAdd, Int.reduceSub, Int.reduceMul, Int.toNat_natCast, reduceCtorEq, decide_true, decide_false, IntWalk.i64_in, IntWalk.u64_in, IntWalk.u8_in], by omega, by omega, upd_same _ _ _⟩ (by simp (disch := omega) only [go_sem, ↓IntWalk.iteOmega, IntWalk.toNatUp, Nat.reduceEqDiff, Nat.reduceAdd, Nat.reduceMul, Nat.reduceSub, Nat.reduceLT, Nat.reduceLeDiff, Int.reduceToNat, Int.reduceLT, Int.reduceLE, Int.reduceEq, Int.reduceAdd, Int.reduceSub, Int.reduceMul, Int.toNat_natCast, reduceCtorEq, decide_true, decide_false, IntWalk.i64_in, IntWalk.u64_in, IntWalk.u8_in]) (by simp (disch := omega) only [go_sem, ↓IntWalk.iteOmega, IntWalk.toNatUp, Nat.reduceEqDiff, Nat.reduceAdd, Nat.reduceMul, Nat.reduceSub, Nat.reduceLT, Nat.reduceLeDiff, Int.reduceToNat, Int.reduceLT, Int.reduceLE, Int.reduceEq, Int.reduceAdd, Int.reduceSub, Int.reduceMul, Int.toNat_natCast, reduceCtorEq, decide_true, decide_false, IntWalk.i64_in, IntWalk.u64_in, IntWalk.u8_in]) ⟨by simp (disch := omega) only [go_sem, ↓IntWalk.iteOmega, IntWalk.toNatUp, Nat.reduceEqDiff, Nat.reduceAdd, Nat.reduceMul, Nat.reduceSub, Nat.reduceLT, Nat.reduceLeDiff, Int.reduceToNat, Int.reduceLT, Int.reduceLE, Int.reduceEq, Int.reduceAdd, Int.reduceSub, Int.reduceMul, Int.toNat_natCast, reduceCtorEq, decide_true, decide_false, IntWalk.i64_in, IntWalk.u64_in, IntWalk.u8_in], by simp (disch := omega) only [go_sem, ↓IntWalk.iteOmega, IntWalk.toNatUp, Nat.reduceEqDiff, Nat.reduceAdd, Nat.reduceMul, Nat.reduceSub, Nat.reduceLT, Nat.reduceLeDiff, Int.reduceToNat, Int.reduceLT, Int.reduceLE, Int.reduceEq, Int.reduceAdd, Int.reduceSub, Int.reduceMul, Int.toNat_natCast, reduceCtorEq, decide_true, decide_false, IntWalk.i64_in, IntWalk.u64_in, IntWalk.u8_in], by simp (disch := omega) only [go_sem, ↓IntWalk.iteOmega, IntWalk.toNatUp, Nat.reduceEqDiff, Nat.reduceAdd, Nat.reduceMul, Nat.reduceSub, Nat.reduceLT, Nat.reduceLeDiff, Int.reduceToNat, Int.reduceLT, Int.reduceLE, Int.reduceEq, Int.reduceAdd, Int.reduceSub, Int.reduceMul, Int.toNat_natCast, reduceCtorEq, decide_true, decide_false, IntWalk.i64_in, IntWalk.u64_in, IntWalk.u8_in], by rw [hn17 _ _ _ (by omega)]; exact hx4, k1.trans (BKeep.new (hn17 _)) (by omega)⟩ ?_
    clear hB1 hk1 k1 hx3 hx4 hx3' hn17
    intro a o2 nx2 v2 hnx2 ha6 hv2 ha3 hx3 hB2 ha0 ha5 ha4 hx4 k2
    simp (disch := omega) only [go_sem, ↓IntWalk.iteOmega, IntWalk.toNatUp, Nat.reduceEqDiff, Nat.reduceAdd, Nat.reduceMul, Nat.reduceSub, Nat.reduceLT, Nat.reduceLeDiff, Int.reduceToNat, Int.reduceLT, Int.reduceLE, Int.reduceEq, Int.reduceAdd, Int.reduceSub, Int.reduceMul, Int.toNat_natCast, reduceCtorEq, decide_true, decide_false, IntWalk.i64_in, IntWalk.u64_in, IntWalk.u8_in, hP, ha0, ha3, ha4, ha5, ha6]
    have hlr := hNs_rep x hi.toNat
    have hB2' : BAt o2 (nx2 + 1) t b.state := hB2.new (fun _ _ _ => rfl) (by omega)
    have hv2' : NdsAt o2 (nx2 + 1) v2 (List.replicate hi.toNat x) := .inr (by rw [List.length_replicate]; exact hv2.keep (fun _ _ => rfl) (by omega))
    have hPo := parts_ok (okNs_rep hk hi.toNat) (by rw [List.length_replicate]; omega) (fun y hy t o nx b hb hpb => by rw [List.eq_of_mem_replicate hy] at hpb ⊢; exact hpart t o nx b hb hpb) hv2' hB2' ⟨by omega, by omega, by omega⟩ (by omega)
    refine parts_call hPo hv2' hB2' ?_
    clear hPo hv2' hB2'
    intro v3 o3 nx3 hle3 hB3 k3 hv3
    rw [bPartL_rep] at hB3 hv3
    have hbl := parts_bd (h := hN x) (List.replicate hi.toNat (bPart x)) b.state [] (fun f hf b => by rw [List.eq_of_mem_replicate hf]; exact part_bd x hk b)
    obtain ⟨r, hr⟩ : ∃ r, r = bParts (List.replicate hi.toNat (bPart x)) b.state [] := ⟨_, rfl⟩
    have hbr : bRepeat lo hi.toNat (bPart x) b = if r.2.state.n > 1000 then (((b.n : Int), (r.2.n : Int)), r.2.state) else (((b.n : Int), (r.2.n : Int)), r.2.state.frees (headL b.n r.1 ++ rLinks lo r.2.n 0 r.1 ++ (if lo = 0 then [((b.n : Int), (r.2.n : Int))] else []))) := by rw [hr]; rfl
    rw [← hr] at hB3 hv3 hbl
    have b1 := hbl.hi
    have b2 := hbl.f4
    have b3 : r.1.length ≤ 10 := by
      rcases hbl.str with e | e
      · rw [e]; simp
      · have := e.1; simp at this; omega
    clear hr hbl
    have k03 : BKeep t o nx o3 := k2.trans (fun i j (hi : i < nx2) => k3 i j (by omega)) (by omega)
    have hx3' := k3.row hx3 (by omega) (fun e => absurd e (by decide)) (by decide) (by decide)
    have hx4' := k3.row hx4 (by omega) (fun e => absurd e (by decide)) (by decide) (by decide)
    clear k3 hx3 hx4 hB2 hv2 k2
    have hok3 := hv3.ok
    simp (disch := omega) only [go_sem, ↓IntWalk.iteOmega, IntWalk.toNatUp, Nat.reduceEqDiff, Nat.reduceAdd, Nat.reduceMul, Nat.reduceSub, Nat.reduceLT, Nat.reduceLeDiff, Int.reduceToNat, Int.reduceLT, Int.reduceLE, Int.reduceEq, Int.reduceAdd, Int.reduceSub, Int.reduceMul, Int.toNat_natCast, reduceCtorEq, decide_true, decide_false, IntWalk.i64_in, IntWalk.u64_in, IntWalk.u8_in, hS, ha0, ha3, ha4, ha5, ha6]
    refine state_call (hB3.new (fun _ _ _ => rfl) (by omega)) (by omega) ?_
    intro o4 nx4 hle4 hB4 k4
    have k04 : BKeep t o nx o4 := k03.trans (fun i j (hi : i < nx3) => k4 i j (by omega)) (by omega)
    have hx3 := k4.row hx3' (by omega) (fun e => absurd e (by decide)) (by decide) (by decide)
    have hx4 := k4.row hx4' (by omega) (fun e => absurd e (by decide)) (by decide) (by decide)
    have hv4 := hv3.keep (o' := o4) (nx' := nx4) (fun i hi => k4 i 21 (by omega) (fun e => absurd e (by decide)) (by decide) (by decide)) (by omega)
    clear k4 hx3' hx4' hB3 hv3 k03
    simp (disch := omega) only [go_sem, ↓IntWalk.iteOmega, IntWalk.toNatUp, Nat.reduceEqDiff, Nat.reduceAdd, Nat.reduceMul, Nat.reduceSub, Nat.reduceLT, Nat.reduceLeDiff, Int.reduceToNat, Int.reduceLT, Int.reduceLE, Int.reduceEq, Int.reduceAdd, Int.reduceSub, Int.reduceMul, Int.toNat_natCast, reduceCtorEq, decide_true, decide_false, IntWalk.i64_in, IntWalk.u64_in, IntWalk.u8_in, hU, ha0, ha3, ha4, ha5, ha6]
    refine full_call (hB4.new (fun _ _ _ => rfl) (by omega)) ?_
    intro o5 nx5 hle5 hB5 k5
    have k05 : BKeep t o nx o5 := k04.trans (fun i j (hi : i < nx4) => k5 i j (by omega)) (by omega)
    have hx3' := k5.row hx3 (by omega) (fun e => absurd e (by decide)) (by decide) (by decide)
    have hx4' := k5.row hx4 (by omega) (fun e => absurd e (by decide)) (by decide) (by decide)
    have hv5 := hv4.keep (o' := o5) (nx' := nx5) (fun i hi => k5 i 21 (by omega) (fun e => absurd e (by decide)) (by decide) (by decide)) (by omega)
    clear k5 hx3 hx4 hB4 hv4 k04
    rw [cNd_mk] at hx3'
    by_cases hfull : (1000 : Int) < r.2.state.n
    · rw [if_pos (by omega)] at hbr
      simp (disch := omega) only [go_sem, ↓IntWalk.iteOmega, IntWalk.toNatUp, Nat.reduceEqDiff, Nat.reduceAdd, Nat.reduceMul, Nat.reduceSub, Nat.reduceLT, Nat.reduceLeDiff, Int.reduceToNat, Int.reduceLT, Int.reduceLE, Int.reduceEq, Int.reduceAdd, Int.reduceSub, Int.reduceMul, Int.toNat_natCast, reduceCtorEq, decide_true, decide_false, IntWalk.i64_in, IntWalk.u64_in, IntWalk.u8_in, hfull, ha0, ha3, ha4, ha5, ha6, hx4']
      rw [hbr]
      refine ⟨rfl, by show nx ≤ nx5 + 1; omega, hB5.slot2 (fun i j hj => ?_) (by show nx5 ≤ nx5 + 1; omega), ?_⟩
      · have : ¬ (j = 4) := by omega
        simp [upd_app, this]
      intro i j hi a1 a2 a3
      have : i ≠ nx := by have : i < nx := hi; omega
      exact (by simp [upd_app, this] : _ = o5 (i, j)).trans (k05 i j hi a1 a2 a3)
    · rw [if_neg (by omega)] at hbr
      have hbf : r.2.state.f.length = r.2.f.length := rfl
      have hx3'' : o5 (nx, 3) = some (.row ⟨34, 1, (nx, 3), false, true, cNd (.mk kind set lo hi (x :: l))⟩) := by rw [hx3', cNd_mk]
      rw [decide_eq_false hfull]
      simp only [kH_eq, WS_nil, thenQ_normal, WP_cond, opd_tmp, putO_some, put_same, wC_bool, wIf_false, WP_skip]
      refine rep_mid hF hlo b3 htn (by omega) hB5 (T := (bRepeat lo hi.toNat (bPart x) b).2) (b := b) (by rw [hbr]) (by omega) hv5 (by simp (disch := omega) only [go_sem, ↓IntWalk.iteOmega, IntWalk.toNatUp, Nat.reduceEqDiff, Nat.reduceAdd, Nat.reduceMul, Nat.reduceSub, Nat.reduceLT, Nat.reduceLeDiff, Int.reduceToNat, Int.reduceLT, Int.reduceLE, Int.reduceEq, Int.reduceAdd, Int.reduceSub, Int.reduceMul, Int.toNat_natCast, reduceCtorEq, decide_true, decide_false, IntWalk.i64_in, IntWalk.u64_in, IntWalk.u8_in, ha3]) hx3'' (by simp (disch := omega) only [go_sem, ↓IntWalk.iteOmega, IntWalk.toNatUp, Nat.reduceEqDiff, Nat.reduceAdd, Nat.reduceMul, Nat.reduceSub, Nat.reduceLT, Nat.reduceLeDiff, Int.reduceToNat, Int.reduceLT, Int.reduceLE, Int.reduceEq, Int.reduceAdd, Int.reduceSub, Int.reduceMul, Int.toNat_natCast, reduceCtorEq, decide_true, decide_false, IntWalk.i64_in, IntWalk.u64_in, IntWalk.u8_in]) (by simp (disch := omega) only [go_sem, ↓IntWalk.iteOmega, IntWalk.toNatUp, Nat.reduceEqDiff, Nat.reduceAdd, Nat.reduceMul, Nat.reduceSub, Nat.reduceLT, Nat.reduceLeDiff, Int.reduceToNat, Int.reduceLT, Int.reduceLE, Int.reduceEq, Int.reduceAdd, Int.reduceSub, Int.reduceMul, Int.toNat_natCast, reduceCtorEq, decide_true, decide_false, IntWalk.i64_in, IntWalk.u64_in, IntWalk.u8_in, ha0]) (by simp (disch := omega) only [go_sem, ↓IntWalk.iteOmega, IntWalk.toNatUp, Nat.reduceEqDiff, Nat.reduceAdd, Nat.reduceMul, Nat.reduceSub, Nat.reduceLT, Nat.reduceLeDiff, Int.reduceToNat, Int.reduceLT, Int.reduceLE, Int.reduceEq, Int.reduceAdd, Int.reduceSub, Int.reduceMul, Int.toNat_natCast, reduceCtorEq, decide_true, decide_false, IntWalk.i64_in, IntWalk.u64_in, IntWalk.u8_in, ha5]) (by simp (disch := omega) only [go_sem, ↓IntWalk.iteOmega, IntWalk.toNatUp, Nat.reduceEqDiff, Nat.reduceAdd, Nat.reduceMul, Nat.reduceSub, Nat.reduceLT, Nat.reduceLeDiff, Int.reduceToNat, Int.reduceLT, Int.reduceLE, Int.reduceEq, Int.reduceAdd, Int.reduceSub, Int.reduceMul, Int.toNat_natCast, reduceCtorEq, decide_true, decide_false, IntWalk.i64_in, IntWalk.u64_in, IntWalk.u8_in, ha4]) hx4' (by simp (disch := omega) only [go_sem, ↓IntWalk.iteOmega, IntWalk.toNatUp, Nat.reduceEqDiff, Nat.reduceAdd, Nat.reduceMul, Nat.reduceSub, Nat.reduceLT, Nat.reduceLeDiff, Int.reduceToNat, Int.reduceLT, Int.reduceLE, Int.reduceEq, Int.reduceAdd, Int.reduceSub, Int.reduceMul, Int.toNat_natCast, reduceCtorEq, decide_true, decide_false, IntWalk.i64_in, IntWalk.u64_in, IntWalk.u8_in]) k05 ?_
      intro a o' nx' hle hB h4 ho4 hk
      simp (disch := omega) only [go_sem, ↓IntWalk.iteOmega, IntWalk.toNatUp, Nat.reduceEqDiff, Nat.reduceAdd, Nat.reduceMul, Nat.reduceSub, Nat.reduceLT, Nat.reduceLeDiff, Int.reduceToNat, Int.reduceLT, Int.reduceLE, Int.reduceEq, Int.reduceAdd, Int.reduceSub, Int.reduceMul, Int.toNat_natCast, reduceCtorEq, decide_true, decide_false, IntWalk.i64_in, IntWalk.u64_in, IntWalk.u8_in, h4, ho4]
      rw [hbr]
      rw [hbr] at hB
      exact ⟨rfl, hle, hB, hk⟩)
  refine ⟨v, H', hnd ▸ h1, fun t' b' kind' set' lo' hi' x' l' e hb => ?_⟩
  simp only [List.cons.injEq, AV.ptr.injEq, Prod.mk.injEq, AV.agg.injEq, and_true] at e
  obtain ⟨⟨rfl, _⟩, e2⟩ := e
  have e3 := cNd_inj e2
  injection e3 with _ _ r1 r2 r3
  injection r3 with r3 _
  rw [← h.same hb, ← r1, ← r2, ← r3]
  exact h2
end Go.Proofs.Ytcaemgpificohaa.A
/- The builder: the loops of part. -/
namespace Go.Proofs.Ytcaemgpificohaa.A
open Go
set_option maxRecDepth 20000
theorem links_next {p : List (Int × Int)} {i : Nat} (h : i + 1 < p.length) : links (p.drop i) = ((p.getD i (0, 0)).2, (p.getD (i + 1) (0, 0)).1) :: links (p.drop (i + 1)) := by
  rw [getD_drop p (0, 0) (show i < p.length by omega), getD_drop p (0, 0) h, links]
theorem links_last {p : List (Int × Int)} {i : Nat} (h : i + 1 = p.length) : links (p.drop i) = [] := by
  have e1 : p.drop (i + 1) = [] := List.drop_of_length_le (by omega)
  rw [getD_drop p (0, 0) (show i < p.length by omega), e1, links]
  intro _ _ _ h; cases h
def nzPart (id : Nat) : Option (List (Nat × Nat)) := if id = 33 then some [(5, 11)] else none
theorem lookBPart (X) : lookedAt (EX md0 X) nzPart 2 Try.f32 = true := by kernel_rfl
theorem bjoin_loop {cr : CallR} (hF : cr 49 = cRel RFree) {t r i1 : Nat} {g1 : Tag} {o0 : Ob} {nx0 : Nat} {T b : BS} {p : List (Int × Int)} {a : AAct} {o : Ob} {nx : Nat} {Q : WPost} (hlen : p.length ≤ 20) (hp0 : 0 < p.length) (hr : nx0 ≤ r) (hrn : r < nx) (hnx : nx0 ≤ nx) (hB : BAt o nx t b) (hT : b.frees (links p) = T) (hbf : b.f.length ≤ 1000000) (hi1 : i1 < nx) (hrow : o (i1, 21) = some (.row ⟨65, 2, g1, false, true, cP p⟩)) (h5 : a 5 = .ref (i1, 21) g1 0 p.length) (h32 : a 32 = .ref (i1, 21) g1 2 (p.length - 1)) (h33 : a 33 = .int .i64 (p.length - 1 : Nat)) (h34 : a 34 = .int .i64 0)
    (hmore : a 0 = bp t ∧ a 4 = .ptr (r, 4) (r, 4) 0 ∧ o (r, 4) = some (.row ⟨65, 1, (r, 4), false, true, [.int .i64 0, .int .i64 0]⟩) ∧ BKeep t o0 nx0 o)
    (hQ : ∀ a o nx, nx0 ≤ nx → r < nx → BAt o nx t T → o (i1, 21) = some (.row ⟨65, 2, g1, false, true, cP p⟩) → a 5 = .ref (i1, 21) g1 0 p.length → a 0 = bp t → a 4 = .ptr (r, 4) (r, 4) 0 → o (r, 4) = some (.row ⟨65, 1, (r, 4), false, true, [.int .i64 0, .int .i64 0]⟩) → BKeep t o0 nx0 o → Q .normal a o nx) :
    WP (EX md0 (fun _ _ => none)) cr 30 nzPart (pathC [1, 0, 1, 0, 1, 0, 1, 1, 0, 1, 0] (Try.f32.body.getD .skip)) a o nx (blockQ 1 Q) := by
  simp only [Try.f32, Option.getD_some, pathC]
  refine WP_loop (fun m a o nx => ∃ (i : Nat) (b : BS), i + 1 ≤ p.length ∧ m = p.length - 1 - i ∧ nx0 ≤ nx ∧ r < nx ∧ BAt o nx t b ∧ b.frees (links (p.drop i)) = T ∧ b.f.length ≤ 1000000 + i ∧ i1 < nx ∧ o (i1, 21) = some (.row ⟨65, 2, g1, false, true, cP p⟩) ∧ a 5 = .ref (i1, 21) g1 0 p.length ∧ a 32 = .ref (i1, 21) g1 2 (p.length - 1) ∧ a 33 = .int .i64 (p.length - 1 : Nat) ∧ a 34 = .int .i64 i ∧ a 0 = bp t ∧ a 4 = .ptr (r, 4) (r, 4) 0 ∧ o (r, 4) = some (.row ⟨65, 1, (r, 4), false, true, [.int .i64 0, .int .i64 0]⟩) ∧ BKeep t o0 nx0 o) (p.length - 1) (by omega) ⟨0, b, by omega, by omega, hnx, hrn, hB, hT, by omega, hi1, hrow, h5, h32, h33, h34, hmore⟩ ?_
  clear hmore h5 h32 h33 h34 hB hT hbf hrow hrn hnx hi1
  rintro m a o nx ⟨i, b, hi, rfl, hnx, hrn, hB, hT, hbf, hi1, hrow, h5, h32, h33, h34, h0, h4, ho4, hkp⟩
  by_cases hlt : i + 1 < p.length
  · have hat := cP_at (show i < p.length by omega)
    have hat3 : (cP p).drop (i * 2 + 1) = .int .i64 (p.getD i (0, 0)).2 :: cP (p.drop (i + 1)) := by rw [← List.drop_drop, hat]; rfl
    have hat2 : (cP p).drop (2 + i * 2) = .int .i64 (p.getD (i + 1) (0, 0)).1 :: .int .i64 (p.getD (i + 1) (0, 0)).2 :: cP (p.drop (i + 1 + 1)) := by rw [show 2 + i * 2 = (i + 1) * 2 by omega]; exact cP_at hlt
    have hsl : ∀ y z i' j', j' ≠ 7 → upd (upd o (nx + 1, 7) y) (nx + 1, 7) z (i', j') = o (i', j') := fun y z i' j' h => by simp [upd_app, h]
    have hsn : ∀ y z i' j', i' < nx → upd (upd o (nx + 1, 7) y) (nx + 1, 7) z (i', j') = o (i', j') := fun y z i' j' h => by
      have : i' ≠ nx + 1 := by omega
      simp [upd_app, this]
    simp (disch := omega) only [go_sem, ↓IntWalk.iteOmega, IntWalk.toNatUp, Nat.reduceEqDiff, Nat.reduceAdd, Nat.reduceMul, Nat.reduceSub, Nat.reduceLT, Nat.reduceLeDiff, Int.reduceToNat, Int.reduceLT, Int.reduceLE, Int.reduceEq, Int.reduceAdd, Int.reduceSub, Int.reduceMul, Int.toNat_natCast, reduceCtorEq, decide_true, decide_false, IntWalk.i64_in, IntWalk.u64_in, IntWalk.u8_in, h0, h4, h5, h32, h33, h34, hrow, hat, hat2, hat3, hF, nzPart]
    refine free_call (hB.slot2 (fun i' j' hj' => hsl _ _ i' j' (by omega)) (by omega)) _ _ (by omega) ?_
    intro o1 nx1 hle1 hB1 hk1
    have k1 : BKeep t o nx o1 := (BKeep.new (hsn _ _)).trans hk1 (by omega)
    have hrow1 := k1.row hrow hi1 (fun e => absurd e (by decide)) (by decide) (by decide)
    have ho41 := k1.row ho4 hrn (fun e => absurd e (by decide)) (by decide) (by decide)
    rw [links_next hlt, frees_cons] at hT
    simp (disch := omega) only [go_sem, ↓IntWalk.iteOmega, IntWalk.toNatUp, Nat.reduceEqDiff, Nat.reduceAdd, Nat.reduceMul, Nat.reduceSub, Nat.reduceLT, Nat.reduceLeDiff, Int.reduceToNat, Int.reduceLT, Int.reduceLE, Int.reduceEq, Int.reduceAdd, Int.reduceSub, Int.reduceMul, Int.toNat_natCast, reduceCtorEq, decide_true, decide_false, IntWalk.i64_in, IntWalk.u64_in, IntWalk.u8_in, h0, h4, h5, h32, h33, h34, hrow, hat, hat2, hat3, hF, nzPart]
    refine ⟨_, ?_, i + 1, _, by omega, rfl, by omega, by omega, hB1.new (fun _ _ _ => rfl) (by omega), hT, by simp only [BS.free_f, List.length_append, List.length_cons, List.length_nil]; omega, by omega, hrow1, rfl, ho41, hkp.trans k1 hnx⟩
    omega
  · rw [links_last (by omega), frees_nil] at hT
    simp (disch := omega) only [go_sem, ↓IntWalk.iteOmega, IntWalk.toNatUp, Nat.reduceEqDiff, Nat.reduceAdd, Nat.reduceMul, Nat.reduceSub, Nat.reduceLT, Nat.reduceLeDiff, Int.reduceToNat, Int.reduceLT, Int.reduceLE, Int.reduceEq, Int.reduceAdd, Int.reduceSub, Int.reduceMul, Int.toNat_natCast, reduceCtorEq, decide_true, decide_false, IntWalk.i64_in, IntWalk.u64_in, IntWalk.u8_in, h0, h4, h5, h32, h33, h34, hrow, hF, nzPart]
    exact hQ _ _ _ (by omega) (by omega) (hT ▸ hB.new (fun _ _ _ => rfl) (by omega)) hrow (by simp (disch := omega) only [go_sem, ↓IntWalk.iteOmega, IntWalk.toNatUp, Nat.reduceEqDiff, Nat.reduceAdd, Nat.reduceMul, Nat.reduceSub, Nat.reduceLT, Nat.reduceLeDiff, Int.reduceToNat, Int.reduceLT, Int.reduceLE, Int.reduceEq, Int.reduceAdd, Int.reduceSub, Int.reduceMul, Int.toNat_natCast, reduceCtorEq, decide_true, decide_false, IntWalk.i64_in, IntWalk.u64_in, IntWalk.u8_in, h5]) (by simp (disch := omega) only [go_sem, ↓IntWalk.iteOmega, IntWalk.toNatUp, Nat.reduceEqDiff, Nat.reduceAdd, Nat.reduceMul, Nat.reduceSub, Nat.reduceLT, Nat.reduceLeDiff, Int.reduceToNat, Int.reduceLT, Int.reduceLE, Int.reduceEq, Int.reduceAdd, Int.reduceSub, Int.reduceMul, Int.toNat_natCast, reduceCtorEq, decide_true, decide_false, IntWalk.i64_in, IntWalk.u64_in, IntWalk.u8_in, h0]) (by simp (disch := omega) only [go_sem, ↓IntWalk.iteOmega, IntWalk.toNatUp, Nat.reduceEqDiff, Nat.reduceAdd, Nat.reduceMul, Nat.reduceSub, Nat.reduceLT, Nat.reduceLeDiff, Int.reduceToNat, Int.reduceLT, Int.reduceLE, Int.reduceEq, Int.reduceAdd, Int.reduceSub, Int.reduceMul, Int.toNat_natCast, reduceCtorEq, decide_true, decide_false, IntWalk.i64_in, IntWalk.u64_in, IntWalk.u8_in, h4]) ho4 hkp
/-- What a union's parts add. -/
def uLinks (n e : Int) (l : List (Int × Int)) : List (Int × Int) := l.flatMap fun p => [(n, p.1), (p.2, e)]
theorem bunion_loop {cr : CallR} (hF : cr 49 = cRel RFree) {t r : Nat} {n0 e : Int} {o0 : Ob} {nx0 : Nat} {T b : BS} {p : List (Int × Int)} {vp : AV} {a : AAct} {o : Ob} {nx : Nat} {Q : WPost} (hlen : p.length ≤ 20) (hr : nx0 ≤ r) (hrn : r < nx) (hnx : nx0 ≤ nx) (hB : BAt o nx t b) (hT : b.frees (uLinks n0 e p) = T) (hbf : b.f.length ≤ 1000000) (hp : HS 65 2 21 o nx vp p.length (cP p)) (h71 : a 71 = vp) (h72 : a 72 = .int .i64 p.length) (h73 : a 73 = .int .i64 0)
    (hmore : a 0 = bp t ∧ a 4 = .ptr (r, 4) (r, 4) 0 ∧ o (r, 4) = some (.row ⟨65, 1, (r, 4), false, true, [.int .i64 0, .int .i64 0]⟩) ∧ a 8 = .int .i64 n0 ∧ a 10 = .int .i64 e ∧ BKeep t o0 nx0 o)
    (hQ : ∀ a o nx, nx0 ≤ nx → r < nx → BAt o nx t T → a 0 = bp t → a 4 = .ptr (r, 4) (r, 4) 0 → o (r, 4) = some (.row ⟨65, 1, (r, 4), false, true, [.int .i64 0, .int .i64 0]⟩) → a 8 = .int .i64 n0 → a 10 = .int .i64 e → BKeep t o0 nx0 o → Q .normal a o nx) :
    WP (EX md0 (fun _ _ => none)) cr 30 nzPart (pathC [1, 0, 1, 0, 1, 1, 1, 0, 1, 1, 1, 0, 1, 0] (Try.f32.body.getD .skip)) a o nx (blockQ 3 Q) := by
  simp only [Try.f32, Option.getD_some, pathC]
  refine WP_loop (fun m a o nx => ∃ (i : Nat) (b : BS), i ≤ p.length ∧ m = p.length - i ∧ nx0 ≤ nx ∧ r < nx ∧ BAt o nx t b ∧ b.frees (uLinks n0 e (p.drop i)) = T ∧ b.f.length ≤ 1000000 + 2 * i ∧ HS 65 2 21 o nx vp p.length (cP p) ∧ a 71 = vp ∧ a 72 = .int .i64 p.length ∧ a 73 = .int .i64 i ∧ a 0 = bp t ∧ a 4 = .ptr (r, 4) (r, 4) 0 ∧ o (r, 4) = some (.row ⟨65, 1, (r, 4), false, true, [.int .i64 0, .int .i64 0]⟩) ∧ a 8 = .int .i64 n0 ∧ a 10 = .int .i64 e ∧ BKeep t o0 nx0 o) p.length (by omega) ⟨0, b, by omega, by omega, hnx, hrn, hB, hT, by omega, hp, h71, h72, h73, hmore⟩ ?_
  clear hmore h71 h72 h73 hB hT hbf hp hrn hnx
  rintro m a o nx ⟨i, b, hi, rfl, hnx, hrn, hB, hT, hbf, hp, h71, h72, h73, h0, h4, ho4, h8, h10, hkp⟩
  by_cases hlt : i < p.length
  · rcases hp with ⟨_, e1, _⟩ | ⟨i1, g1, rfl, hi1, hrow, hlen'⟩
    · omega
    have hat := cP_at hlt
    have hsl : ∀ y z i' j', j' ≠ 12 → upd (upd o (nx + 1, 12) y) (nx + 1, 12) z (i', j') = o (i', j') := fun y z i' j' h => by simp [upd_app, h]
    have hsn : ∀ y z i' j', i' < nx → upd (upd o (nx + 1, 12) y) (nx + 1, 12) z (i', j') = o (i', j') := fun y z i' j' h => by
      have : i' ≠ nx + 1 := by omega
      simp [upd_app, this]
    rw [getD_drop p (0, 0) hlt, show uLinks n0 e (p.getD i (0, 0) :: p.drop (i + 1)) = (n0, (p.getD i (0, 0)).1) :: ((p.getD i (0, 0)).2, e) :: uLinks n0 e (p.drop (i + 1)) from rfl, frees_cons, frees_cons] at hT
    simp (disch := omega) only [go_sem, ↓IntWalk.iteOmega, IntWalk.toNatUp, Nat.reduceEqDiff, Nat.reduceAdd, Nat.reduceMul, Nat.reduceSub, Nat.reduceLT, Nat.reduceLeDiff, Int.reduceToNat, Int.reduceLT, Int.reduceLE, Int.reduceEq, Int.reduceAdd, Int.reduceSub, Int.reduceMul, Int.toNat_natCast, reduceCtorEq, decide_true, decide_false, IntWalk.i64_in, IntWalk.u64_in, IntWalk.u8_in, h0, h4, h8, h10, h71, h72, h73, hrow, hat, hF, nzPart]
    refine free_call (hB.slot2 (fun i' j' hj' => hsl _ _ i' j' (by omega)) (by omega)) _ _ (by omega) ?_
    intro o1 nx1 hle1 hB1 hk1
    have k1 : BKeep t o nx o1 := (BKeep.new (hsn _ _)).trans hk1 (by omega)
    have hrow1 := k1.row hrow hi1 (fun e => absurd e (by decide)) (by decide) (by decide)
    have ho41 := k1.row ho4 hrn (fun e => absurd e (by decide)) (by decide) (by decide)
    have hz1 : o1 (nx + 1, 12) = some (.row ⟨65, 1, (nx + 1, 12), false, true, [.int .i64 (p.getD i (0, 0)).1, .int .i64 (p.getD i (0, 0)).2]⟩) := by rw [hk1 _ _ (by omega) (fun e => absurd e (by decide)) (by decide) (by decide)]; exact upd_same _ _ _
    simp (disch := omega) only [go_sem, ↓IntWalk.iteOmega, IntWalk.toNatUp, Nat.reduceEqDiff, Nat.reduceAdd, Nat.reduceMul, Nat.reduceSub, Nat.reduceLT, Nat.reduceLeDiff, Int.reduceToNat, Int.reduceLT, Int.reduceLE, Int.reduceEq, Int.reduceAdd, Int.reduceSub, Int.reduceMul, Int.toNat_natCast, reduceCtorEq, decide_true, decide_false, IntWalk.i64_in, IntWalk.u64_in, IntWalk.u8_in, h0, h4, h8, h10, h71, h72, h73, hrow1, hat, hF, nzPart, hz1]
    refine free_call (hB1.new (fun _ _ _ => rfl) (by omega)) _ _ (by simp only [BS.free_f, List.length_append, List.length_cons, List.length_nil]; omega) ?_
    intro o2 nx2 hle2 hB2 hk2
    have k2 : BKeep t o nx o2 := k1.trans (fun i j (hi : i < nx1) => hk2 i j (by omega)) (by omega)
    simp (disch := omega) only [go_sem, ↓IntWalk.iteOmega, IntWalk.toNatUp, Nat.reduceEqDiff, Nat.reduceAdd, Nat.reduceMul, Nat.reduceSub, Nat.reduceLT, Nat.reduceLeDiff, Int.reduceToNat, Int.reduceLT, Int.reduceLE, Int.reduceEq, Int.reduceAdd, Int.reduceSub, Int.reduceMul, Int.toNat_natCast, reduceCtorEq, decide_true, decide_false, IntWalk.i64_in, IntWalk.u64_in, IntWalk.u8_in, h0, h4, h8, h10, h71, h72, h73, hrow1, hat, hF, nzPart, hz1]
    refine ⟨_, ?_, i + 1, _, by omega, rfl, by omega, by omega, hB2.new (fun _ _ _ => rfl) (by omega), hT, by simp only [BS.free_f, List.length_append, List.length_cons, List.length_nil]; omega, .inr ⟨i1, g1, rfl, by omega, k2.row hrow hi1 (fun e => absurd e (by decide)) (by decide) (by decide), hlen'⟩, rfl, k2.row ho4 hrn (fun e => absurd e (by decide)) (by decide) (by decide), hkp.trans k2 hnx⟩
    omega
  · rw [List.drop_of_length_le (by omega), show uLinks n0 e [] = [] from rfl, frees_nil] at hT
    simp (disch := omega) only [go_sem, ↓IntWalk.iteOmega, IntWalk.toNatUp, Nat.reduceEqDiff, Nat.reduceAdd, Nat.reduceMul, Nat.reduceSub, Nat.reduceLT, Nat.reduceLeDiff, Int.reduceToNat, Int.reduceLT, Int.reduceLE, Int.reduceEq, Int.reduceAdd, Int.reduceSub, Int.reduceMul, Int.toNat_natCast, reduceCtorEq, decide_true, decide_false, IntWalk.i64_in, IntWalk.u64_in, IntWalk.u8_in, h0, h4, h8, h10, h71, h72, h73, hF, nzPart]
    exact hQ _ _ _ (by omega) (by omega) (hT ▸ hB.new (fun _ _ _ => rfl) (by omega)) (by simp (disch := omega) only [go_sem, ↓IntWalk.iteOmega, IntWalk.toNatUp, Nat.reduceEqDiff, Nat.reduceAdd, Nat.reduceMul, Nat.reduceSub, Nat.reduceLT, Nat.reduceLeDiff, Int.reduceToNat, Int.reduceLT, Int.reduceLE, Int.reduceEq, Int.reduceAdd, Int.reduceSub, Int.reduceMul, Int.toNat_natCast, reduceCtorEq, decide_true, decide_false, IntWalk.i64_in, IntWalk.u64_in, IntWalk.u8_in, h0]) (by simp (disch := omega) only [go_sem, ↓IntWalk.iteOmega, IntWalk.toNatUp, Nat.reduceEqDiff, Nat.reduceAdd, Nat.reduceMul, Nat.reduceSub, Nat.reduceLT, Nat.reduceLeDiff, Int.reduceToNat, Int.reduceLT, Int.reduceLE, Int.reduceEq, Int.reduceAdd, Int.reduceSub, Int.reduceMul, Int.toNat_natCast, reduceCtorEq, decide_true, decide_false, IntWalk.i64_in, IntWalk.u64_in, IntWalk.u8_in, h4]) ho4 (by simp (disch := omega) only [go_sem, ↓IntWalk.iteOmega, IntWalk.toNatUp, Nat.reduceEqDiff, Nat.reduceAdd, Nat.reduceMul, Nat.reduceSub, Nat.reduceLT, Nat.reduceLeDiff, Int.reduceToNat, Int.reduceLT, Int.reduceLE, Int.reduceEq, Int.reduceAdd, Int.reduceSub, Int.reduceMul, Int.toNat_natCast, reduceCtorEq, decide_true, decide_false, IntWalk.i64_in, IntWalk.u64_in, IntWalk.u8_in, h8]) (by simp (disch := omega) only [go_sem, ↓IntWalk.iteOmega, IntWalk.toNatUp, Nat.reduceEqDiff, Nat.reduceAdd, Nat.reduceMul, Nat.reduceSub, Nat.reduceLT, Nat.reduceLeDiff, Int.reduceToNat, Int.reduceLT, Int.reduceLE, Int.reduceEq, Int.reduceAdd, Int.reduceSub, Int.reduceMul, Int.toNat_natCast, reduceCtorEq, decide_true, decide_false, IntWalk.i64_in, IntWalk.u64_in, IntWalk.u8_in, h10]) hkp
end Go.Proofs.Ytcaemgpificohaa.A
/- The builder: part, kind by kind. -/
namespace Go.Proofs.Ytcaemgpificohaa.A
open Go
set_option maxRecDepth 20000
noncomputable abbrev tabPart : List (FuncId × (List AV → AH → Option (AV × AH))) := [(50, cRel RState), (49, cRel RFree), (33, cRel RFull), (48, cRel RParts), (51, cRel ROnce), (52, cRel RRep)]
theorem crPart_ok : CRSound Try.prog (tabLookR tabPart) ∧ Up (tabLookR tabPart) :=
  tabR_cons (tabR_cons (tabR_cons (tabR_cons (tabR_cons (tabR_cons (tabR_nil _) fun args H v H' h => (cRel_some h).1) fun args H v H' h => (cRel_some h).1) fun args H v H' h => (cRel_some h).1) fun args H v H' h => (cRel_some h).1) fun args H v H' h => (cRel_some h).1) fun args H v H' h => (cRel_some h).1
theorem rep_call {kind set lo hi : Int} {x : Nd} {l : List Nd} {t : Nat} {o : Ob} {nx : Nat} {b : BS} {K : AV × AH → Prop} (hex : ∃ v H', RRep [bp t, nodeV (.mk kind set lo hi (x :: l))] ⟨o, nx⟩ v H') (h : BAt o nx t b) (hK : ∀ o' nx', nx ≤ nx' → BAt o' nx' t (bRepeat lo hi.toNat (bPart x) b).2 → BKeep t o nx o' → K (bE (bRepeat lo hi.toNat (bPart x) b).1, ⟨o', nx'⟩)) :
    wO (Option.map (fun p => freezeR false p.1 p.2) (cRel RRep [bp t, nodeV (.mk kind set lo hi (x :: l))] ⟨o, nx⟩)) K := by
  refine cRel_call hex fun v H' hr => ?_
  obtain ⟨rfl, h1, h2, h3⟩ := hr.2 t b kind set lo hi x l rfl h
  exact hK H'.o H'.nx h1 h2 h3
/-- The walk of a part gives its contract. -/
theorem part_of {x : Nd} {t : Nat} {o : Ob} {nx : Nat} {b : BS} (h : BAt o nx t b)
    (w : ∀ cr, cr 50 = cRel RState → cr 49 = cRel RFree → cr 33 = cRel RFull → cr 48 = cRel RParts → cr 51 = cRel ROnce → cr 52 = cRel RRep →
      WP (EX md0 (fun _ _ => none)) cr 30 nzPart (Try.f32.body.getD .skip) (begin_ [bp t, nodeV x]) o nx (fun u a o' nx' => (u = .normal ∨ u = .ret) ∧ wO (resultsL Try.prog a ⟨o', nx'⟩ Try.f32.results.toList) (fun vs => tup1 vs = bE (bPart x b).1 ∧ BTo t (bPart x b).2 ⟨o, nx⟩ ⟨o', nx'⟩))) :
    ∃ v H', RPartB [bp t, nodeV x] ⟨o, nx⟩ v H' := by
  obtain ⟨v, H', h1, h2⟩ := okR_of_WP (E := EX md0 (fun _ _ => none)) (cr := tabLookR tabPart) (cp_none _) crPart_ok mixed (k := 30) (nz := nzPart) (args := [bp t, nodeV x]) (o := o) (nx := nx) (Post := fun v o' nx' => v = bE (bPart x b).1 ∧ BTo t (bPart x b).2 ⟨o, nx⟩ ⟨o', nx'⟩) Try.func32 (lookBPart _) rfl (w _ rfl rfl rfl rfl rfl rfl)
  refine ⟨v, H', h1, fun t' b' x' e hb => ?_⟩
  simp only [List.cons.injEq, AV.ptr.injEq, Prod.mk.injEq, AV.agg.injEq, and_true] at e
  obtain ⟨⟨rfl, _⟩, e2⟩ := e
  rw [← h.same hb, ← cNd_inj e2]
  exact h2
theorem bto_ret {t : Nat} {b' : BS} {o : Ob} {nx : Nat} {o1 : Ob} {nx1 : Nat} {y : AObj} {nx2 : Nat} (hB1 : BAt o1 nx1 t b') (k1 : BKeep t o nx o1) (hle : nx ≤ nx1) (h2 : nx1 ≤ nx2) : BTo t b' ⟨o, nx⟩ ⟨upd o1 (nx, 4) y, nx2⟩ := by
  refine ⟨by show nx ≤ nx2; omega, hB1.slot2 (fun i j hj => ?_) h2, fun i j hi a1 a2 a3 => ?_⟩
  · have : j ≠ 4 := by omega
    simp [upd_app, this]
  · have : i ≠ nx := by have : i < nx := hi; omega
    exact (by simp [upd_app, this] : _ = o1 (i, j)).trans (k1 i j hi a1 a2 a3)
theorem part_once {kind set lo hi : Int} {x : Nd} {l : List Nd} {ar bk : Bool} (hkd : kind = 6 ∧ ar = true ∧ bk = true ∨ kind = 7 ∧ ar = false ∧ bk = true ∨ kind = 8 ∧ ar = true ∧ bk = false) (hk : okN x = true) (hpart : ∀ t o nx b, BAt o nx t b → Pre (hN x) b → ∃ v H', RPartB [bp t, nodeV x] ⟨o, nx⟩ v H') {t : Nat} {o : Ob} {nx : Nat} {b : BS} (h : BAt o nx t b) (hp : Pre (hN x + 1) b) (hh : hN x ≤ 1000) :
    ∃ v H', RPartB [bp t, nodeV (.mk kind set lo hi (x :: l))] ⟨o, nx⟩ v H' := by
  refine part_of h fun cr hS hF hU hP hO hR => ?_
  have hb : bPart (.mk kind set lo hi (x :: l)) b = bOnce (bPart x) ar bk b := by
    rw [bPart, bPartL, bNode]
    rcases hkd with ⟨rfl, rfl, rfl⟩ | ⟨rfl, rfl, rfl⟩ | ⟨rfl, rfl, rfl⟩ <;> rfl
  rw [hb]
  have hnew : ∀ y z, ∀ i j, i < nx → upd (upd o (nx, 3) y) (nx, 4) z (i, j) = o (i, j) := fun y z i j hi => by simp (disch := omega) only [upd_fst]
  have hat : cNds (x :: l) = cNd x ++ cNds l := cNds_cons x l
  have hOk := fun o1 nx1 (hB : BAt o1 nx1 t b) => once_ok hk hpart hB hp hh ar bk
  simp only [Try.f32, Option.getD_some]
  rcases hkd with ⟨rfl, rfl, rfl⟩ | ⟨rfl, rfl, rfl⟩ | ⟨rfl, rfl, rfl⟩
  all_goals
    simp (disch := omega) only [go_sem, ↓IntWalk.iteOmega, IntWalk.toNatUp, Nat.reduceEqDiff, Nat.reduceAdd, Nat.reduceMul, Nat.reduceSub, Nat.reduceLT, Nat.reduceLeDiff, Int.reduceToNat, Int.reduceLT, Int.reduceLE, Int.reduceEq, Int.reduceAdd, Int.reduceSub, Int.reduceMul, Int.toNat_natCast, reduceCtorEq, decide_true, decide_false, IntWalk.i64_in, IntWalk.u64_in, IntWalk.u8_in, hat, hO, nzPart]
    refine once_call (hOk _ _ (h.new (hnew _ _) (by omega))) (h.new (hnew _ _) (by omega)) ?_
    intro o1 nx1 hle1 hB1 hk1
    have hx4 : o1 (nx, 4) = some (.row ⟨65, 1, (nx, 4), false, true, [.int .i64 0, .int .i64 0]⟩) := by rw [hk1 _ _ (by omega) (fun e => absurd e (by decide)) (by decide) (by decide)]; simp [upd_app]
    have k1 : BKeep t o nx o1 := (BKeep.new (hnew _ _)).trans hk1 (by omega)
    simp (disch := omega) only [go_sem, ↓IntWalk.iteOmega, IntWalk.toNatUp, Nat.reduceEqDiff, Nat.reduceAdd, Nat.reduceMul, Nat.reduceSub, Nat.reduceLT, Nat.reduceLeDiff, Int.reduceToNat, Int.reduceLT, Int.reduceLE, Int.reduceEq, Int.reduceAdd, Int.reduceSub, Int.reduceMul, Int.toNat_natCast, reduceCtorEq, decide_true, decide_false, IntWalk.i64_in, IntWalk.u64_in, IntWalk.u8_in, hat, hx4, nzPart]
    exact bto_ret hB1 k1 (by omega) (by omega)
theorem part_rep {set lo hi : Int} {x : Nd} {l : List Nd} (hk : okN x = true) (hlo : 0 ≤ lo ∧ lo ≤ 10) (hhi : 0 ≤ hi ∧ hi ≤ 10) (hpart : ∀ t o nx b, BAt o nx t b → Pre (hN x) b → ∃ v H', RPartB [bp t, nodeV x] ⟨o, nx⟩ v H') {t : Nat} {o : Ob} {nx : Nat} {b : BS} (h : BAt o nx t b) (hp : Pre (hN x + 1) b) (hh : hN x ≤ 1000) :
    ∃ v H', RPartB [bp t, nodeV (.mk 9 set lo hi (x :: l))] ⟨o, nx⟩ v H' := by
  refine part_of h fun cr hS hF hU hP hO hR => ?_
  have hb : bPart (.mk 9 set lo hi (x :: l)) b = bRepeat lo hi.toNat (bPart x) b := by
    rw [bPart, bPartL, bNode]; rfl
  rw [hb]
  have hnew : ∀ y z, ∀ i j, i < nx → upd (upd o (nx, 3) y) (nx, 4) z (i, j) = o (i, j) := fun y z i j hi => by simp (disch := omega) only [upd_fst]
  have hcn : cNd (.mk 9 set lo hi (x :: l)) = [.int .i64 9, .int .i64 set, .int .i64 lo, .int .i64 hi, slN (x :: l)] := cNd_mk ..
  have hOk := fun o1 nx1 (hB : BAt o1 nx1 t b) => rep_ok (kind := 9) (set := set) (l := l) hk hlo hhi hpart hB hp hh
  simp only [Try.f32, Option.getD_some]
  simp (disch := omega) only [go_sem, ↓IntWalk.iteOmega, IntWalk.toNatUp, Nat.reduceEqDiff, Nat.reduceAdd, Nat.reduceMul, Nat.reduceSub, Nat.reduceLT, Nat.reduceLeDiff, Int.reduceToNat, Int.reduceLT, Int.reduceLE, Int.reduceEq, Int.reduceAdd, Int.reduceSub, Int.reduceMul, Int.toNat_natCast, reduceCtorEq, decide_true, decide_false, IntWalk.i64_in, IntWalk.u64_in, IntWalk.u8_in, hR, nzPart]
  simp only [← hcn]
  refine rep_call (hOk _ _ (h.new (hnew _ _) (by omega))) (h.new (hnew _ _) (by omega)) ?_
  intro o1 nx1 hle1 hB1 hk1
  have hx4 : o1 (nx, 4) = some (.row ⟨65, 1, (nx, 4), false, true, [.int .i64 0, .int .i64 0]⟩) := by rw [hk1 _ _ (by omega) (fun e => absurd e (by decide)) (by decide) (by decide)]; simp [upd_app]
  have k1 : BKeep t o nx o1 := (BKeep.new (hnew _ _)).trans hk1 (by omega)
  simp (disch := omega) only [go_sem, ↓IntWalk.iteOmega, IntWalk.toNatUp, Nat.reduceEqDiff, Nat.reduceAdd, Nat.reduceMul, Nat.reduceSub, Nat.reduceLT, Nat.reduceLeDiff, Int.reduceToNat, Int.reduceLT, Int.reduceLE, Int.reduceEq, Int.reduceAdd, Int.reduceSub, Int.reduceMul, Int.toNat_natCast, reduceCtorEq, decide_true, decide_false, IntWalk.i64_in, IntWalk.u64_in, IntWalk.u8_in, hx4, nzPart]
  exact bto_ret hB1 k1 (by omega) (by omega)
theorem part_join {set lo hi : Int} {l : List Nd} (hk : okNs l = true) (hl : 0 < l.length ∧ l.length ≤ 10) (hpart : ∀ x ∈ l, ∀ t o nx b, BAt o nx t b → Pre (hN x) b → ∃ v H', RPartB [bp t, nodeV x] ⟨o, nx⟩ v H') {t : Nat} {o : Ob} {nx : Nat} {b : BS} (h : BAt o nx t b) (hp : Pre (hNs l + 1) b) (hh : hNs l ≤ 1000) :
    ∃ v H', RPartB [bp t, nodeV (.mk 4 set lo hi l)] ⟨o, nx⟩ v H' := by
  refine part_of h fun cr hS hF hU hP hO hR => ?_
  have hb : bPart (.mk 4 set lo hi l) b = bJoin (bPartL l) b := by
    rw [bPart, bNode]; rfl
  rw [hb]
  have hnew : ∀ y z, ∀ i j, i < nx → upd (upd o (nx, 3) y) (nx, 4) z (i, j) = o (i, j) := fun y z i j hi => by simp (disch := omega) only [upd_fst]
  have hcn : cNd (.mk 4 set lo hi l) = [.int .i64 4, .int .i64 set, .int .i64 lo, .int .i64 hi, slN l] := cNd_mk ..
  have hOk := fun o1 nx1 (hB : BAt o1 nx1 t b) => parts_ok hk (by omega) hpart (.inl rfl) hB ⟨hp.f, hp.s, by have := hp.n; omega⟩ hh
  simp only [Try.f32, Option.getD_some]
  simp (disch := omega) only [go_sem, ↓IntWalk.iteOmega, IntWalk.toNatUp, Nat.reduceEqDiff, Nat.reduceAdd, Nat.reduceMul, Nat.reduceSub, Nat.reduceLT, Nat.reduceLeDiff, Int.reduceToNat, Int.reduceLT, Int.reduceLE, Int.reduceEq, Int.reduceAdd, Int.reduceSub, Int.reduceMul, Int.toNat_natCast, reduceCtorEq, decide_true, decide_false, IntWalk.i64_in, IntWalk.u64_in, IntWalk.u8_in, hP, nzPart]
  refine parts_call (hOk _ _ (h.new (hnew _ _) (by omega))) (.inl rfl) (h.new (hnew _ _) (by omega)) ?_
  intro v1 o1 nx1 hle1 hB1 hk1 hv1
  have hx4 : o1 (nx, 4) = some (.row ⟨65, 1, (nx, 4), false, true, [.int .i64 0, .int .i64 0]⟩) := by rw [hk1 _ _ (by omega) (fun e => absurd e (by decide)) (by decide) (by decide)]; simp [upd_app]
  have k1 : BKeep t o nx o1 := (BKeep.new (hnew _ _)).trans hk1 (by omega)
  clear hk1
  simp (disch := omega) only [go_sem, ↓IntWalk.iteOmega, IntWalk.toNatUp, Nat.reduceEqDiff, Nat.reduceAdd, Nat.reduceMul, Nat.reduceSub, Nat.reduceLT, Nat.reduceLeDiff, Int.reduceToNat, Int.reduceLT, Int.reduceLE, Int.reduceEq, Int.reduceAdd, Int.reduceSub, Int.reduceMul, Int.toNat_natCast, reduceCtorEq, decide_true, decide_false, IntWalk.i64_in, IntWalk.u64_in, IntWalk.u8_in, hx4, hU, nzPart]
  have hbl := parts_bd (h := hNs l) (bPartL l) b [] (parts_bd' l hk)
  have hbr : bJoin (bPartL l) b = if (bParts (bPartL l) b []).2.n > 1000 ∨ (bParts (bPartL l) b []).1 = [] then ((0, 0), (bParts (bPartL l) b []).2) else ((((bParts (bPartL l) b []).1.headD (0, 0)).1, ((bParts (bPartL l) b []).1.getLastD (0, 0)).2), (bParts (bPartL l) b []).2.frees (links (bParts (bPartL l) b []).1)) := rfl
  obtain ⟨r, hr⟩ : ∃ r, r = bParts (bPartL l) b [] := ⟨_, rfl⟩
  rw [← hr] at hB1 hv1 hbl hbr
  have b1 := hbl.hi
  have b2 := hbl.f4
  have b3 : r.1.length ≤ 10 := by
    rcases hbl.str with e | e
    · rw [e]; simp
    · have := e.1; rw [bPartL_length] at this; simp only [List.length_nil] at this; omega
  have hpn := hp.n
  have hpf := hp.f
  clear hr hbl
  refine full_call (hB1.new (fun _ _ _ => rfl) (by omega)) ?_
  intro o2 nx2 hle2 hB2 hk2
  have k2 : BKeep t o nx o2 := k1.trans (fun i j (hi : i < nx1) => hk2 i j (by omega)) (by omega)
  have hx42 := (fun h => hk2 nx 4 (by omega) (fun e => absurd e (by decide)) (by decide) (by decide) |>.trans h) hx4
  have hv2 := hv1.keep (o' := o2) (nx' := nx2) (fun i hi => hk2 i 21 (by omega) (fun e => absurd e (by decide)) (by decide) (by decide)) (by omega)
  clear hk2 hB1 hx4 hv1 k1
  by_cases hfull : (1000 : Int) < r.2.n
  · rw [if_pos (.inl (by omega))] at hbr
    rw [hbr]
    simp (disch := omega) only [go_sem, ↓IntWalk.iteOmega, IntWalk.toNatUp, Nat.reduceEqDiff, Nat.reduceAdd, Nat.reduceMul, Nat.reduceSub, Nat.reduceLT, Nat.reduceLeDiff, Int.reduceToNat, Int.reduceLT, Int.reduceLE, Int.reduceEq, Int.reduceAdd, Int.reduceSub, Int.reduceMul, Int.toNat_natCast, reduceCtorEq, decide_true, decide_false, IntWalk.i64_in, IntWalk.u64_in, IntWalk.u8_in, hfull, hx42, nzPart]
    exact bto_ret hB2 k2 (by omega) (by omega)
  by_cases hnil : r.1 = []
  · rw [if_pos (.inr hnil)] at hbr
    rw [hbr]
    rcases hv2 with ⟨rfl, e1, e2⟩ | ⟨i1, g1, rfl, hi1, hrow, hlen'⟩
    · simp (disch := omega) only [go_sem, ↓IntWalk.iteOmega, IntWalk.toNatUp, Nat.reduceEqDiff, Nat.reduceAdd, Nat.reduceMul, Nat.reduceSub, Nat.reduceLT, Nat.reduceLeDiff, Int.reduceToNat, Int.reduceLT, Int.reduceLE, Int.reduceEq, Int.reduceAdd, Int.reduceSub, Int.reduceMul, Int.toNat_natCast, reduceCtorEq, decide_true, decide_false, IntWalk.i64_in, IntWalk.u64_in, IntWalk.u8_in, hfull, hx42, nzPart]
      exact bto_ret hB2 k2 (by omega) (by omega)
    · have hz : (r.1.length : Int) = 0 := by rw [hnil]; rfl
      simp (disch := omega) only [go_sem, ↓IntWalk.iteOmega, IntWalk.toNatUp, Nat.reduceEqDiff, Nat.reduceAdd, Nat.reduceMul, Nat.reduceSub, Nat.reduceLT, Nat.reduceLeDiff, Int.reduceToNat, Int.reduceLT, Int.reduceLE, Int.reduceEq, Int.reduceAdd, Int.reduceSub, Int.reduceMul, Int.toNat_natCast, reduceCtorEq, decide_true, decide_false, IntWalk.i64_in, IntWalk.u64_in, IntWalk.u8_in, hfull, hx42, nzPart, hz]
      exact bto_ret hB2 k2 (by omega) (by omega)
  · rw [if_neg (fun h => h.elim (fun h => hfull (by omega)) hnil)] at hbr
    have hpos : 0 < r.1.length := List.length_pos_iff.2 hnil
    rcases hv2 with ⟨rfl, e1, e2⟩ | ⟨i1, g1, rfl, hi1, hrow, hlen'⟩
    · omega
    · have hz : ¬ (r.1.length : Int) = 0 := by omega
      have hat0 : take1 false 1 (cP r.1) = some (.int .i64 (r.1.headD (0, 0)).1) := by
        cases hrr : r.1 with
        | nil => exact absurd hrr hnil
        | cons p pl => rfl
      have hat1 : (cP r.1).drop ((r.1.length - 1) * 2 + 1) = .int .i64 (r.1.getLastD (0, 0)).2 :: [] := by
        have e0 : r.1.drop (r.1.length - 1 + 1) = [] := List.drop_of_length_le (by omega)
        rw [← List.drop_drop, cP_at (by omega), e0]
        have : r.1.getLastD (0, 0) = r.1.getD (r.1.length - 1) (0, 0) := by
          rw [List.getLastD_eq_getLast?, List.getLast?_eq_getElem?, List.getD_eq_getElem?_getD]
        rw [this]; rfl
      simp (disch := omega) only [go_sem, ↓IntWalk.iteOmega, IntWalk.toNatUp, Nat.reduceEqDiff, Nat.reduceAdd, Nat.reduceMul, Nat.reduceSub, Nat.reduceLT, Nat.reduceLeDiff, Int.reduceToNat, Int.reduceLT, Int.reduceLE, Int.reduceEq, Int.reduceAdd, Int.reduceSub, Int.reduceMul, Int.toNat_natCast, reduceCtorEq, decide_true, decide_false, IntWalk.i64_in, IntWalk.u64_in, IntWalk.u8_in, hfull, hx42, nzPart, hz]
      refine bjoin_loop hF (T := r.2.frees (links r.1)) (o0 := o) (nx0 := nx) (p := r.1) (by omega) hpos (Nat.le_refl nx) (by omega) (by omega) (hB2.new (fun _ _ _ => rfl) (by omega)) rfl (by omega) (by omega) hrow (by simp (disch := omega) only [go_sem, ↓IntWalk.iteOmega, IntWalk.toNatUp, Nat.reduceEqDiff, Nat.reduceAdd, Nat.reduceMul, Nat.reduceSub, Nat.reduceLT, Nat.reduceLeDiff, Int.reduceToNat, Int.reduceLT, Int.reduceLE, Int.reduceEq, Int.reduceAdd, Int.reduceSub, Int.reduceMul, Int.toNat_natCast, reduceCtorEq, decide_true, decide_false, IntWalk.i64_in, IntWalk.u64_in, IntWalk.u8_in]) (by simp (disch := omega) only [go_sem, ↓IntWalk.iteOmega, IntWalk.toNatUp, Nat.reduceEqDiff, Nat.reduceAdd, Nat.reduceMul, Nat.reduceSub, Nat.reduceLT, Nat.reduceLeDiff, Int.reduceToNat, Int.reduceLT, Int.reduceLE, Int.reduceEq, Int.reduceAdd, Int.reduceSub, Int.reduceMul, Int.toNat_natCast, reduceCtorEq, decide_true, decide_false, IntWalk.i64_in, IntWalk.u64_in, IntWalk.u8_in]) (by simp (disch := omega) only [go_sem, ↓IntWalk.iteOmega, IntWalk.toNatUp, Nat.reduceEqDiff, Nat.reduceAdd, Nat.reduceMul, Nat.reduceSub, Nat.reduceLT, Nat.reduceLeDiff, Int.reduceToNat, Int.reduceLT, Int.reduceLE, Int.reduceEq, Int.reduceAdd, Int.reduceSub, Int.reduceMul, Int.toNat_natCast, reduceCtorEq, decide_true, decide_false, IntWalk.i64_in, IntWalk.u64_in, IntWalk.u8_in]) (by simp (disch := omega) only [go_sem, ↓IntWalk.iteOmega, IntWalk.toNatUp, Nat.reduceEqDiff, Nat.reduceAdd, Nat.reduceMul, Nat.reduceSub, Nat.reduceLT, Nat.reduceLeDiff, Int.reduceToNat, Int.reduceLT, Int.reduceLE, Int.reduceEq, Int.reduceAdd, Int.reduceSub, Int.reduceMul, Int.toNat_natCast, reduceCtorEq, decide_true, decide_false, IntWalk.i64_in, IntWalk.u64_in, IntWalk.u8_in]) ⟨by simp (disch := omega) only [go_sem, ↓IntWalk.iteOmega, IntWalk.toNatUp, Nat.reduceEqDiff, Nat.reduceAdd, Nat.reduceMul, Nat.reduceSub, Nat.reduceLT, Nat.reduceLeDiff, Int.reduceToNat, Int.reduceLT, Int.reduceLE, Int.reduceEq, Int.reduceAdd, Int.reduceSub, Int.reduceMul, Int.toNat_natCast, reduceCtorEq, decide_true, decide_false, IntWalk.i64_in, IntWalk.u64_in, IntWalk.u8_in], by simp (disch := omega) only [go_sem, ↓IntWalk.iteOmega, IntWalk.toNatUp, Nat.reduceEqDiff, Nat.reduceAdd, Nat.reduceMul, Nat.reduceSub, Nat.reduceLT, Nat.reduceLeDiff, Int.reduceToNat, Int.reduceLT, Int.reduceLE, Int.reduceEq, Int.reduceAdd, Int.reduceSub, Int.reduceMul, Int.toNat_natCast, reduceCtorEq, decide_true, decide_false, IntWalk.i64_in, IntWalk.u64_in, IntWalk.u8_in], hx42, k2⟩ ?_
      intro a o3 nx3 hn3 hrn3 hB3 hrow3 ha5 ha0 ha4 hx43 k3
      rw [hbr]
      simp (disch := omega) only [go_sem, ↓IntWalk.iteOmega, IntWalk.toNatUp, Nat.reduceEqDiff, Nat.reduceAdd, Nat.reduceMul, Nat.reduceSub, Nat.reduceLT, Nat.reduceLeDiff, Int.reduceToNat, Int.reduceLT, Int.reduceLE, Int.reduceEq, Int.reduceAdd, Int.reduceSub, Int.reduceMul, Int.toNat_natCast, reduceCtorEq, decide_true, decide_false, IntWalk.i64_in, IntWalk.u64_in, IntWalk.u8_in, hx43, nzPart, ha5, ha0, ha4, hrow3, hat1, hat0]
      exact bto_ret hB3 k3 (by omega) (by omega)
theorem part_union {set lo hi : Int} {l : List Nd} (hk : okNs l = true) (hl : 0 < l.length ∧ l.length ≤ 10) (hpart : ∀ x ∈ l, ∀ t o nx b, BAt o nx t b → Pre (hN x) b → ∃ v H', RPartB [bp t, nodeV x] ⟨o, nx⟩ v H') {t : Nat} {o : Ob} {nx : Nat} {b : BS} (h : BAt o nx t b) (hp : Pre (hNs l + 1) b) (hh : hNs l ≤ 1000) :
    ∃ v H', RPartB [bp t, nodeV (.mk 5 set lo hi l)] ⟨o, nx⟩ v H' := by
  refine part_of h fun cr hS hF hU hP hO hR => ?_
  have hb : bPart (.mk 5 set lo hi l) b = bUnion (bPartL l) b := by
    rw [bPart, bNode]; rfl
  rw [hb]
  have hnew : ∀ y z, ∀ i j, i < nx → upd (upd o (nx, 3) y) (nx, 4) z (i, j) = o (i, j) := fun y z i j hi => by simp (disch := omega) only [upd_fst]
  have hcn : cNd (.mk 5 set lo hi l) = [.int .i64 5, .int .i64 set, .int .i64 lo, .int .i64 hi, slN l] := cNd_mk ..
  have e1 : b.state.n = b.n + 1 := rfl
  have e2 : b.state.f.length = b.f.length := rfl
  have e3 : b.state.s.length = b.s.length := rfl
  have hp1 := hp.f
  have hp2 := hp.s
  have hp3 := hp.n
  have hOk := fun o1 nx1 (hB : BAt o1 nx1 t b.state) => parts_ok hk (by omega) hpart (.inl rfl) hB ⟨by omega, by omega, by omega⟩ hh
  simp only [Try.f32, Option.getD_some]
  simp (disch := omega) only [go_sem, ↓IntWalk.iteOmega, IntWalk.toNatUp, Nat.reduceEqDiff, Nat.reduceAdd, Nat.reduceMul, Nat.reduceSub, Nat.reduceLT, Nat.reduceLeDiff, Int.reduceToNat, Int.reduceLT, Int.reduceLE, Int.reduceEq, Int.reduceAdd, Int.reduceSub, Int.reduceMul, Int.toNat_natCast, reduceCtorEq, decide_true, decide_false, IntWalk.i64_in, IntWalk.u64_in, IntWalk.u8_in, hS, nzPart]
  refine state_call (h.new (hnew _ _) (by omega)) (by omega) ?_
  intro o1 nx1 hle1 hB1 hk1
  have hx4 : o1 (nx, 4) = some (.row ⟨65, 1, (nx, 4), false, true, [.int .i64 0, .int .i64 0]⟩) := by rw [hk1 _ _ (by omega) (fun e => absurd e (by decide)) (by decide) (by decide)]; simp [upd_app]
  have hx3 : o1 (nx, 3) = some (.row ⟨34, 1, (nx, 3), false, true, [.int .i64 5, .int .i64 set, .int .i64 lo, .int .i64 hi, slN l]⟩) := by rw [hk1 _ _ (by omega) (fun e => absurd e (by decide)) (by decide) (by decide)]; simp [upd_app]
  have k1 : BKeep t o nx o1 := (BKeep.new (hnew _ _)).trans hk1 (by omega)
  clear hk1
  simp (disch := omega) only [go_sem, ↓IntWalk.iteOmega, IntWalk.toNatUp, Nat.reduceEqDiff, Nat.reduceAdd, Nat.reduceMul, Nat.reduceSub, Nat.reduceLT, Nat.reduceLeDiff, Int.reduceToNat, Int.reduceLT, Int.reduceLE, Int.reduceEq, Int.reduceAdd, Int.reduceSub, Int.reduceMul, Int.toNat_natCast, reduceCtorEq, decide_true, decide_false, IntWalk.i64_in, IntWalk.u64_in, IntWalk.u8_in, hx3, hP, nzPart]
  refine parts_call (hOk _ _ (hB1.new (fun _ _ _ => rfl) (by omega))) (.inl rfl) (hB1.new (fun _ _ _ => rfl) (by omega)) ?_
  intro v1 o2 nx2 hle2 hB2 hk2 hv2
  have k2 : BKeep t o nx o2 := k1.trans (fun i j (hi : i < nx1) => hk2 i j (by omega)) (by omega)
  have hx42 := (fun h => hk2 nx 4 (by omega) (fun e => absurd e (by decide)) (by decide) (by decide) |>.trans h) hx4
  clear hk2 hB1 hx4 hx3 k1
  have hbl := parts_bd (h := hNs l) (bPartL l) b.state [] (parts_bd' l hk)
  have hbr : bUnion (bPartL l) b = (((b.n : Int), ((bParts (bPartL l) b.state []).2.n : Int)), (bParts (bPartL l) b.state []).2.state.frees (uLinks b.n (bParts (bPartL l) b.state []).2.n (bParts (bPartL l) b.state []).1)) := rfl
  obtain ⟨r, hr⟩ : ∃ r, r = bParts (bPartL l) b.state [] := ⟨_, rfl⟩
  rw [← hr] at hB2 hv2 hbl hbr
  have b1 := hbl.hi
  have b2 := hbl.f4
  have b3 : r.1.length ≤ 10 := by
    rcases hbl.str with e | e
    · rw [e]; simp
    · have := e.1; rw [bPartL_length] at this; simp only [List.length_nil] at this; omega
  have b4 : r.2.state.f.length = r.2.f.length := rfl
  clear hr hbl
  simp (disch := omega) only [go_sem, ↓IntWalk.iteOmega, IntWalk.toNatUp, Nat.reduceEqDiff, Nat.reduceAdd, Nat.reduceMul, Nat.reduceSub, Nat.reduceLT, Nat.reduceLeDiff, Int.reduceToNat, Int.reduceLT, Int.reduceLE, Int.reduceEq, Int.reduceAdd, Int.reduceSub, Int.reduceMul, Int.toNat_natCast, reduceCtorEq, decide_true, decide_false, IntWalk.i64_in, IntWalk.u64_in, IntWalk.u8_in, hS, nzPart]
  refine state_call (hB2.new (fun _ _ _ => rfl) (by omega)) (by omega) ?_
  intro o3 nx3 hle3 hB3 hk3
  have k3 : BKeep t o nx o3 := k2.trans (fun i j (hi : i < nx2) => hk3 i j (by omega)) (by omega)
  have hx43 := (fun h => hk3 nx 4 (by omega) (fun e => absurd e (by decide)) (by decide) (by decide) |>.trans h) hx42
  have hv3 := hv2.keep (o' := o3) (nx' := nx3) (fun i hi => hk3 i 21 (by omega) (fun e => absurd e (by decide)) (by decide) (by decide)) (by omega)
  clear hk3 hB2 hx42 hv2 k2
  have hv3' := hv3
  rcases hv3 with ⟨rfl, e1, e2⟩ | ⟨i1, g1, rfl, hi1, hrow, hlen'⟩
  all_goals
    simp (disch := omega) only [go_sem, ↓IntWalk.iteOmega, IntWalk.toNatUp, Nat.reduceEqDiff, Nat.reduceAdd, Nat.reduceMul, Nat.reduceSub, Nat.reduceLT, Nat.reduceLeDiff, Int.reduceToNat, Int.reduceLT, Int.reduceLE, Int.reduceEq, Int.reduceAdd, Int.reduceSub, Int.reduceMul, Int.toNat_natCast, reduceCtorEq, decide_true, decide_false, IntWalk.i64_in, IntWalk.u64_in, IntWalk.u8_in, nzPart]
    refine bunion_loop hF (n0 := b.n) (e := r.2.n) (p := r.1) (o0 := o) (nx0 := nx) (by omega) (Nat.le_refl nx) (by omega) (by omega) (hB3.new (fun _ _ _ => rfl) (by omega)) rfl (by omega) (hv3'.keep (fun _ _ => rfl) (by omega)) (by simp (disch := omega) only [go_sem, ↓IntWalk.iteOmega, IntWalk.toNatUp, Nat.reduceEqDiff, Nat.reduceAdd, Nat.reduceMul, Nat.reduceSub, Nat.reduceLT, Nat.reduceLeDiff, Int.reduceToNat, Int.reduceLT, Int.reduceLE, Int.reduceEq, Int.reduceAdd, Int.reduceSub, Int.reduceMul, Int.toNat_natCast, reduceCtorEq, decide_true, decide_false, IntWalk.i64_in, IntWalk.u64_in, IntWalk.u8_in]) (by first | (rw [e1]; simp (disch := omega) only [go_sem, ↓IntWalk.iteOmega, IntWalk.toNatUp, Nat.reduceEqDiff, Nat.reduceAdd, Nat.reduceMul, Nat.reduceSub, Nat.reduceLT, Nat.reduceLeDiff, Int.reduceToNat, Int.reduceLT, Int.reduceLE, Int.reduceEq, Int.reduceAdd, Int.reduceSub, Int.reduceMul, Int.toNat_natCast, reduceCtorEq, decide_true, decide_false, IntWalk.i64_in, IntWalk.u64_in, IntWalk.u8_in]) | simp (disch := omega) only [go_sem, ↓IntWalk.iteOmega, IntWalk.toNatUp, Nat.reduceEqDiff, Nat.reduceAdd, Nat.reduceMul, Nat.reduceSub, Nat.reduceLT, Nat.reduceLeDiff, Int.reduceToNat, Int.reduceLT, Int.reduceLE, Int.reduceEq, Int.reduceAdd, Int.reduceSub, Int.reduceMul, Int.toNat_natCast, reduceCtorEq, decide_true, decide_false, IntWalk.i64_in, IntWalk.u64_in, IntWalk.u8_in]) (by simp (disch := omega) only [go_sem, ↓IntWalk.iteOmega, IntWalk.toNatUp, Nat.reduceEqDiff, Nat.reduceAdd, Nat.reduceMul, Nat.reduceSub, Nat.reduceLT, Nat.reduceLeDiff, Int.reduceToNat, Int.reduceLT, Int.reduceLE, Int.reduceEq, Int.reduceAdd, Int.reduceSub, Int.reduceMul, Int.toNat_natCast, reduceCtorEq, decide_true, decide_false, IntWalk.i64_in, IntWalk.u64_in, IntWalk.u8_in]) ⟨by simp (disch := omega) only [go_sem, ↓IntWalk.iteOmega, IntWalk.toNatUp, Nat.reduceEqDiff, Nat.reduceAdd, Nat.reduceMul, Nat.reduceSub, Nat.reduceLT, Nat.reduceLeDiff, Int.reduceToNat, Int.reduceLT, Int.reduceLE, Int.reduceEq, Int.reduceAdd, Int.reduceSub, Int.reduceMul, Int.toNat_natCast, reduceCtorEq, decide_true, decide_false, IntWalk.i64_in, IntWalk.u64_in, IntWalk.u8_in], by simp (disch := omega) only [go_sem, ↓IntWalk.iteOmega, IntWalk.toNatUp, Nat.reduceEqDiff, Nat.reduceAdd, Nat.reduceMul, Nat.reduceSub, Nat.reduceLT, Nat.reduceLeDiff, Int.reduceToNat, Int.reduceLT, Int.reduceLE, Int.reduceEq, Int.reduceAdd, Int.reduceSub, Int.reduceMul, Int.toNat_natCast, reduceCtorEq, decide_true, decide_false, IntWalk.i64_in, IntWalk.u64_in, IntWalk.u8_in], hx43, by simp (disch := omega) only [go_sem, ↓IntWalk.iteOmega, IntWalk.toNatUp, Nat.reduceEqDiff, Nat.reduceAdd, Nat.reduceMul, Nat.reduceSub, Nat.reduceLT, Nat.reduceLeDiff, Int.reduceToNat, Int.reduceLT, Int.reduceLE, Int.reduceEq, Int.reduceAdd, Int.reduceSub, Int.reduceMul, Int.toNat_natCast, reduceCtorEq, decide_true, decide_false, IntWalk.i64_in, IntWalk.u64_in, IntWalk.u8_in], by simp (disch := omega) only [go_sem, ↓IntWalk.iteOmega, IntWalk.toNatUp, Nat.reduceEqDiff, Nat.reduceAdd, Nat.reduceMul, Nat.reduceSub, Nat.reduceLT, Nat.reduceLeDiff, Int.reduceToNat, Int.reduceLT, Int.reduceLE, Int.reduceEq, Int.reduceAdd, Int.reduceSub, Int.reduceMul, Int.toNat_natCast, reduceCtorEq, decide_true, decide_false, IntWalk.i64_in, IntWalk.u64_in, IntWalk.u8_in], k3⟩ ?_
    intro a o4 nx4 hn4 hrn4 hB4 ha0 ha4 hx44 ha8 ha10 k4
    rw [hbr]
    simp (disch := omega) only [go_sem, ↓IntWalk.iteOmega, IntWalk.toNatUp, Nat.reduceEqDiff, Nat.reduceAdd, Nat.reduceMul, Nat.reduceSub, Nat.reduceLT, Nat.reduceLeDiff, Int.reduceToNat, Int.reduceLT, Int.reduceLE, Int.reduceEq, Int.reduceAdd, Int.reduceSub, Int.reduceMul, Int.toNat_natCast, reduceCtorEq, decide_true, decide_false, IntWalk.i64_in, IntWalk.u64_in, IntWalk.u8_in, hx44, nzPart, ha8, ha10, ha0, ha4]
    exact bto_ret hB4 k4 (by omega) (by omega)
end Go.Proofs.Ytcaemgpificohaa.A
/- The builder: part's leaves; part of any tree. -/
namespace Go.Proofs.Ytcaemgpificohaa.A
open Go
set_option maxRecDepth 20000
theorem part_leaf {kind set lo hi : Int} {l : List Nd} (h4 : kind ≠ 4) (h5 : kind ≠ 5) (h6 : kind ≠ 6) (h7 : kind ≠ 7) (h8 : kind ≠ 8) (h9 : kind ≠ 9) {t : Nat} {o : Ob} {nx : Nat} {b : BS} (h : BAt o nx t b) (hp : Pre 1 b) :
    ∃ v H', RPartB [bp t, nodeV (.mk kind set lo hi l)] ⟨o, nx⟩ v H' := by
  refine part_of h fun cr hS hF hU hP hO hR => ?_
  have hb : bPart (.mk kind set lo hi l) b = bLeaf kind set b := by
    rw [bPart, bNode, if_neg h4, if_neg h5, if_neg h6, if_neg h7, if_neg h8, if_neg h9]
  rw [hb]
  have hnew : ∀ y z, ∀ i j, i < nx → upd (upd o (nx, 3) y) (nx, 4) z (i, j) = o (i, j) := fun y z i j hi => by simp (disch := omega) only [upd_fst]
  have e1 : b.state.n = b.n + 1 := rfl
  have e2 : b.state.f.length = b.f.length := rfl
  have e3 : b.state.s.length = b.s.length := rfl
  have hp1 := hp.f
  have hp2 := hp.s
  have hp3 := hp.n
  have htn : t < nx := by obtain ⟨vS, vF, h⟩ := h; exact h.lt
  simp only [Try.f32, Option.getD_some]
  simp (disch := omega) only [go_sem, ↓IntWalk.iteOmega, IntWalk.toNatUp, Nat.reduceEqDiff, Nat.reduceAdd, Nat.reduceMul, Nat.reduceSub, Nat.reduceLT, Nat.reduceLeDiff, Int.reduceToNat, Int.reduceLT, Int.reduceLE, Int.reduceEq, Int.reduceAdd, Int.reduceSub, Int.reduceMul, Int.toNat_natCast, reduceCtorEq, decide_true, decide_false, IntWalk.i64_in, IntWalk.u64_in, IntWalk.u8_in, hS, nzPart, h4, h5, h6, h7, h8, h9]
  refine state_call (h.new (hnew _ _) (by omega)) (by omega) ?_
  intro o1 nx1 hle1 hB1 hk1
  have hx4 : o1 (nx, 4) = some (.row ⟨65, 1, (nx, 4), false, true, [.int .i64 0, .int .i64 0]⟩) := by rw [hk1 _ _ (by omega) (fun e => absurd e (by decide)) (by decide) (by decide)]; simp [upd_app]
  have hx3 : o1 (nx, 3) = some (.row ⟨34, 1, (nx, 3), false, true, [.int .i64 kind, .int .i64 set, .int .i64 lo, .int .i64 hi, slN l]⟩) := by rw [hk1 _ _ (by omega) (fun e => absurd e (by decide)) (by decide) (by decide)]; simp [upd_app]
  have k1 : BKeep t o nx o1 := (BKeep.new (hnew _ _)).trans hk1 (by omega)
  clear hk1
  simp (disch := omega) only [go_sem, ↓IntWalk.iteOmega, IntWalk.toNatUp, Nat.reduceEqDiff, Nat.reduceAdd, Nat.reduceMul, Nat.reduceSub, Nat.reduceLT, Nat.reduceLeDiff, Int.reduceToNat, Int.reduceLT, Int.reduceLE, Int.reduceEq, Int.reduceAdd, Int.reduceSub, Int.reduceMul, Int.toNat_natCast, reduceCtorEq, decide_true, decide_false, IntWalk.i64_in, IntWalk.u64_in, IntWalk.u8_in, hx3, hS, nzPart]
  refine state_call (hB1.new (fun _ _ _ => rfl) (by omega)) (by omega) ?_
  intro o2 nx2 hle2 hB2 hk2
  have k2 : BKeep t o nx o2 := k1.trans (fun i j (hi : i < nx1) => hk2 i j (by omega)) (by omega)
  have hx42 := (fun h => hk2 nx 4 (by omega) (fun e => absurd e (by decide)) (by decide) (by decide) |>.trans h) hx4
  have hx32 := (fun h => hk2 nx 3 (by omega) (fun e => absurd e (by decide)) (by decide) (by decide) |>.trans h) hx3
  clear hk2 hB1 hx4 hx3 k1
  have hb2 : bLeaf kind set b = (((b.n : Int), (b.n : Int) + 1), if kind = 1 then b.state.state.step b.n (b.n + 1) set else if kind = 3 then b.state.state.free b.n (b.n + 1) else b.state.state) := rfl
  have hn1 : ((b.state.n : Nat) : Int) = (b.n : Int) + 1 := by rw [e1]; omega
  rw [hb2]
  by_cases k1' : kind = 1
  · rw [if_pos k1']
    subst k1'
    obtain ⟨vS, vF, hB⟩ := hB2
    have r1 := hB.lt
    have r2 := hB.row
    have r3 := hB.s.ok
    have r4 := hB.f.ok
    have hs := hB.s
    have hf := hB.f
    have hb3 : (b.state.state.step b.n (b.n + 1) set).s.length = b.s.length + 1 := by show List.length (_ ++ _) = _; rw [List.length_append]; rfl
    have hb4 : b.state.state.s.length = b.s.length := rfl
    have hb5 : cS (b.state.state.step b.n (b.n + 1) set).s = cS b.state.state.s ++ [.int .i64 b.n, .int .i64 (b.n + 1), .int .i64 set] := by show cS (_ ++ _) = _; rw [cS_app]; rfl
    have hb6 : (b.state.state.step b.n (b.n + 1) set).f = b.state.state.f := rfl
    have key : ∀ (i : Nat) (g : Tag) (y z : AObj) (w v : AV), nx ≤ i ∨ i < nx → i < nx2 + 2 → z = .row ⟨48, 3, g, false, true, cS b.state.state.s ++ [.int .i64 b.n, .int .i64 (b.n + 1), .int .i64 set]⟩ → v = .ref (i, 139) g 0 (b.s.length + 1) → BAt (upd (upd (upd o2 (nx2 + 1, 138) y) (i, 139) z) (t, 8) (.row ⟨63, 1, (t, 8), false, true, [.int .i64 b.state.state.n, .int .i64 0, .int .i64 0, v, vF]⟩)) (nx2 + 4) t (b.state.state.step b.n (b.n + 1) set) ∧ BKeep t o nx (upd (upd (upd o2 (nx2 + 1, 138) y) (i, 139) z) (t, 8) (.row ⟨63, 1, (t, 8), false, true, [.int .i64 b.state.state.n, .int .i64 0, .int .i64 0, v, vF]⟩)) := by
      intro i g y z w v _ hi hz hv
      subst hz hv
      refine ⟨⟨_, vF, ⟨by omega, upd_same _ _ _, .inr ⟨i, g, by rw [hb3], by omega, ?_, ?_⟩, ?_⟩⟩, fun i' j' hi' a1 a2 a3 => ?_⟩
      · rw [hb5]; simp [upd_app]
      · rw [cS_length]
      · rw [hb6]; exact hf.keep (fun i' hi' => by simp [upd_app]) (by omega)
      · rw [← k2 i' j' hi' a1 a2 a3]
        have n1 : i' ≠ nx2 + 1 := by omega
        have n2 : ¬ (j' = 8 ∧ i' = t) := fun h => a1 h.1 h.2
        by_cases hj : j' = 8
        · have := a1 hj
          simp [upd_app, n1, hj, this]
        · simp [upd_app, n1, hj, a2]
    rcases hB.s with ⟨rfl, q2, q3⟩ | ⟨i1, g1, rfl, hi1, hrow, hlen⟩
    · simp (disch := omega) only [go_sem, ↓IntWalk.iteOmega, IntWalk.toNatUp, Nat.reduceEqDiff, Nat.reduceAdd, Nat.reduceMul, Nat.reduceSub, Nat.reduceLT, Nat.reduceLeDiff, Int.reduceToNat, Int.reduceLT, Int.reduceLE, Int.reduceEq, Int.reduceAdd, Int.reduceSub, Int.reduceMul, Int.toNat_natCast, reduceCtorEq, decide_true, decide_false, IntWalk.i64_in, IntWalk.u64_in, IntWalk.u8_in, hx32, hx42, hn1, r2, r3, r4, nzPart]
      have q4 : b.s.length = 0 := by omega
      obtain ⟨f1, f2⟩ := key (nx2 + 1) (nx2 + 1, 139) (.row ⟨48, 3, (nx2 + 1, 138), false, true, [.int .i64 b.n, .int .i64 (b.n + 1), .int .i64 set]⟩) (.row ⟨48, 3, (nx2 + 1, 139), false, true, [.int .i64 b.n, .int .i64 (b.n + 1), .int .i64 set]⟩) .nil (.ref (nx2 + 1, 139) (nx2 + 1, 139) 0 1) (by omega) (by omega) (by rw [q3]; rfl) (by rw [q4])
      exact bto_ret f1 f2 (by omega) (by omega)
    · simp (disch := omega) only [go_sem, ↓IntWalk.iteOmega, IntWalk.toNatUp, Nat.reduceEqDiff, Nat.reduceAdd, Nat.reduceMul, Nat.reduceSub, Nat.reduceLT, Nat.reduceLeDiff, Int.reduceToNat, Int.reduceLT, Int.reduceLE, Int.reduceEq, Int.reduceAdd, Int.reduceSub, Int.reduceMul, Int.toNat_natCast, reduceCtorEq, decide_true, decide_false, IntWalk.i64_in, IntWalk.u64_in, IntWalk.u8_in, hx32, hx42, hn1, r2, r3, r4, nzPart, hrow]
      obtain ⟨f1, f2⟩ := key i1 (nx2 + 1, 139) (.row ⟨48, 3, (nx2 + 1, 138), false, true, [.int .i64 b.n, .int .i64 (b.n + 1), .int .i64 set]⟩) _ .nil (.ref (i1, 139) (nx2 + 1, 139) 0 (b.state.state.s.length + 1)) (by omega) (by omega) rfl (by rw [hb4])
      exact bto_ret f1 f2 (by omega) (by omega)
  by_cases k3' : kind = 3
  · rw [if_neg k1', if_pos k3']
    subst k3'
    simp (disch := omega) only [go_sem, ↓IntWalk.iteOmega, IntWalk.toNatUp, Nat.reduceEqDiff, Nat.reduceAdd, Nat.reduceMul, Nat.reduceSub, Nat.reduceLT, Nat.reduceLeDiff, Int.reduceToNat, Int.reduceLT, Int.reduceLE, Int.reduceEq, Int.reduceAdd, Int.reduceSub, Int.reduceMul, Int.toNat_natCast, reduceCtorEq, decide_true, decide_false, IntWalk.i64_in, IntWalk.u64_in, IntWalk.u8_in, hx32, hx42, hF, hn1, nzPart]
    refine free_call (hB2.new (fun _ _ _ => rfl) (by omega)) _ _ (by show b.f.length ≤ _; omega) ?_
    intro o3 nx3 hle3 hB3 hk3
    have k3 : BKeep t o nx o3 := k2.trans (fun i j (hi : i < nx2) => hk3 i j (by omega)) (by omega)
    have hx43 := (fun h => hk3 nx 4 (by omega) (fun e => absurd e (by decide)) (by decide) (by decide) |>.trans h) hx42
    simp (disch := omega) only [go_sem, ↓IntWalk.iteOmega, IntWalk.toNatUp, Nat.reduceEqDiff, Nat.reduceAdd, Nat.reduceMul, Nat.reduceSub, Nat.reduceLT, Nat.reduceLeDiff, Int.reduceToNat, Int.reduceLT, Int.reduceLE, Int.reduceEq, Int.reduceAdd, Int.reduceSub, Int.reduceMul, Int.toNat_natCast, reduceCtorEq, decide_true, decide_false, IntWalk.i64_in, IntWalk.u64_in, IntWalk.u8_in, hx43, nzPart]
    exact bto_ret hB3 k3 (by omega) (by omega)
  · rw [if_neg k1', if_neg k3']
    simp (disch := omega) only [go_sem, ↓IntWalk.iteOmega, IntWalk.toNatUp, Nat.reduceEqDiff, Nat.reduceAdd, Nat.reduceMul, Nat.reduceSub, Nat.reduceLT, Nat.reduceLeDiff, Int.reduceToNat, Int.reduceLT, Int.reduceLE, Int.reduceEq, Int.reduceAdd, Int.reduceSub, Int.reduceMul, Int.toNat_natCast, reduceCtorEq, decide_true, decide_false, IntWalk.i64_in, IntWalk.u64_in, IntWalk.u8_in, hx32, hx42, hn1, nzPart, k1', k3']
    exact bto_ret hB2 k2 (by omega) (by omega)
mutual
theorem part_all : ∀ (x : Nd), okN x = true → hN x ≤ 1000 → ∀ (t : Nat) (o : Ob) (nx : Nat) (b : BS), BAt o nx t b → Pre (hN x) b → ∃ v H', RPartB [bp t, nodeV x] ⟨o, nx⟩ v H'
  | .mk kind set lo hi l, hk, hh, t, o, nx, b, h, hp => by
    have hl := parts_all l
    rw [okN, Bool.and_eq_true] at hk
    obtain ⟨hk1, hk2⟩ := hk
    rw [hN] at hp hh
    have hl' := hl hk1 (by omega)
    have hhead : ∀ x m, l = x :: m → okN x = true ∧ hN x ≤ hNs l ∧ ∀ t o nx b, BAt o nx t b → Pre (hN x) b → ∃ v H', RPartB [bp t, nodeV x] ⟨o, nx⟩ v H' := by
      rintro x m rfl
      rw [okNs, Bool.and_eq_true] at hk1
      exact ⟨hk1.1, by rw [hNs]; omega, hl' x (List.mem_cons_self)⟩
    have hpre : ∀ x, hN x ≤ hNs l → Pre (hN x + 1) b := fun x hx => ⟨hp.f, hp.s, by have := hp.n; omega⟩
    by_cases k4 : kind = 4
    · rw [if_pos (.inl k4), decide_eq_true_eq] at hk2
      subst k4
      exact part_join hk1 hk2 hl' h hp (by omega)
    by_cases k5 : kind = 5
    · rw [if_pos (.inr (.inl k5)), decide_eq_true_eq] at hk2
      subst k5
      exact part_union hk1 hk2 hl' h hp (by omega)
    by_cases k6 : kind = 6
    · rw [if_pos (.inr (.inr (.inl k6))), decide_eq_true_eq] at hk2
      obtain ⟨x, m, rfl⟩ := List.exists_cons_of_length_pos hk2.1
      obtain ⟨q1, q2, q3⟩ := hhead x m rfl
      exact part_once (.inl ⟨k6, rfl, rfl⟩) q1 q3 h (hpre x q2) (by omega)
    by_cases k7 : kind = 7
    · rw [if_pos (.inr (.inr (.inr (.inl k7)))), decide_eq_true_eq] at hk2
      obtain ⟨x, m, rfl⟩ := List.exists_cons_of_length_pos hk2.1
      obtain ⟨q1, q2, q3⟩ := hhead x m rfl
      exact part_once (.inr (.inl ⟨k7, rfl, rfl⟩)) q1 q3 h (hpre x q2) (by omega)
    by_cases k8 : kind = 8
    · rw [if_pos (.inr (.inr (.inr (.inr k8)))), decide_eq_true_eq] at hk2
      obtain ⟨x, m, rfl⟩ := List.exists_cons_of_length_pos hk2.1
      obtain ⟨q1, q2, q3⟩ := hhead x m rfl
      exact part_once (.inr (.inr ⟨k8, rfl, rfl⟩)) q1 q3 h (hpre x q2) (by omega)
    by_cases k9 : kind = 9
    · rw [if_neg (by omega), if_pos k9, decide_eq_true_eq] at hk2
      obtain ⟨x, m, rfl⟩ := List.exists_cons_of_length_pos hk2.1
      obtain ⟨q1, q2, q3⟩ := hhead x m rfl
      subst k9
      exact part_rep q1 (by omega) (by omega) q3 h (hpre x q2) (by omega)
    exact part_leaf k4 k5 k6 k7 k8 k9 h ⟨hp.f, hp.s, by have := hp.n; omega⟩
theorem parts_all : ∀ (l : List Nd), okNs l = true → hNs l ≤ 1000 → ∀ x ∈ l, ∀ (t : Nat) (o : Ob) (nx : Nat) (b : BS), BAt o nx t b → Pre (hN x) b → ∃ v H', RPartB [bp t, nodeV x] ⟨o, nx⟩ v H'
  | [], _, _, x, hx => by cases hx
  | y :: l, hk, hh, x, hx => by
    rw [okNs, Bool.and_eq_true] at hk
    rw [hNs] at hh
    rcases List.mem_cons.1 hx with e | hx
    · have := part_all y hk.1 (by omega)
      rw [e]; exact this
    · exact parts_all l hk.2 (by omega) x hx
end
end Go.Proofs.Ytcaemgpificohaa.A
/- nfa.Build: the machine of any tree. -/
namespace Go.Proofs.Ytcaemgpificohaa.A
open Go
set_option maxRecDepth 20000
abbrev b0 : BS := ⟨0, [], []⟩
/-- What is built. -/
def builtV (r : (Int × Int) × BS) : AV := if r.2.n > 1000 then .tup [nfaV 0 0 0 [] [], .int .i64 4] else .tup [nfaV r.2.n r.1.1 r.1.2 r.2.s r.2.f, .int .i64 0]
def nzBuild (id : Nat) : Option (List (Nat × Nat)) := if id = 5 then some [(4, 15), (6, 15), (8, 15), (15, 20), (15, 21), (4, 22), (6, 22), (8, 22), (13, 22), (14, 22), (15, 22), (4, 24), (6, 24), (8, 24), (13, 24), (14, 24), (15, 24), (20, 24), (21, 24), (22, 24)] else none
theorem lookBuild (X) : lookedAt (EX md0 X) nzBuild 1 Try.f14 = true := by kernel_rfl
theorem crBuild_ok : CRSound Try.prog (tabLookR [(32, cRel RPartB), (33, cRel RFull)]) ∧ Up (tabLookR [(32, cRel RPartB), (33, cRel RFull)]) :=
  tabR_cons (tabR_cons (tabR_nil _) fun args H v H' h => (cRel_some h).1) fun args H v H' h => (cRel_some h).1
theorem rep_len (z : List AV) (n : Nat) : (rep z n).length = n * z.length := by
  induction n with
  | zero => simp [rep]
  | succ n ih => rw [rep, List.length_append, ih, Nat.succ_mul]; omega
theorem nfaBuild_ok {x : Nd} (hk : okN x = true) (hh : hN x ≤ 1000) : Ok Try.prog 14 [nodeV x] (builtV (bPart x b0)) := by
  obtain ⟨cr, hcr⟩ : ∃ cr, cr = tabLookR [(32, cRel RPartB), (33, cRel RFull)] := ⟨_, rfl⟩
  have hP : cr 32 = cRel RPartB := by rw [hcr]; rfl
  have hU : cr 33 = cRel RFull := by rw [hcr]; rfl
  have hbd := part_bd x hk b0
  obtain ⟨r, hr⟩ : ∃ r, r = bPart x b0 := ⟨_, rfl⟩
  refine ok_of_WP (E := EX md0 (fun _ _ => none)) (cr := cr) (nz := nzBuild) (cp_none _) (hcr ▸ crBuild_ok) mixed (k := 0) Try.func14 (lookBuild _) rfl ?_
  clear hcr
  simp only [Try.f14, Option.getD_some]
  simp (disch := omega) only [go_sem, ↓IntWalk.iteOmega, IntWalk.toNatUp, Nat.reduceEqDiff, Nat.reduceAdd, Nat.reduceMul, Nat.reduceSub, Nat.reduceLT, Nat.reduceLeDiff, Int.reduceToNat, Int.reduceLT, Int.reduceLE, Int.reduceEq, Int.reduceAdd, Int.reduceSub, Int.reduceMul, Int.toNat_natCast, reduceCtorEq, decide_true, decide_false, IntWalk.i64_in, IntWalk.u64_in, IntWalk.u8_in, hP, nzBuild]
  have hB0 : BAt (upd (upd (upd (fun x => none) (0, 1) (.row ⟨34, 1, (0, 1), false, true, cNd x⟩)) (0, 2) (.row ⟨28, 1, (0, 2), false, true, [.int .i64 0, .int .i64 0, .int .i64 0, .nil, .nil]⟩)) (1, 8) (.row ⟨63, 1, (1, 8), false, true, [.int .i64 0, .int .i64 0, .int .i64 0, .nil, .nil]⟩)) 3 1 b0 :=
    ⟨.nil, .nil, by omega, upd_same _ _ _, HS.nil, HS.nil⟩
  refine part_call (part_all x hk hh 1 _ _ b0 hB0 ⟨Nat.le_refl _, Nat.le_refl _, by show 0 + 2 * hN x ≤ _; omega⟩) hB0 ?_
  intro o1 nx1 hle1 hB1 hk1
  have hx2 : o1 (0, 2) = some (.row ⟨28, 1, (0, 2), false, true, [.int .i64 0, .int .i64 0, .int .i64 0, .nil, .nil]⟩) := by rw [hk1 _ _ (by omega) (fun e => absurd e (by decide)) (by decide) (by decide)]; simp [upd_app]
  clear hB0 hk1
  rw [← hr] at hB1 ⊢
  have b1 : r.2.n ≤ 4000 := by have := hbd.hi; rw [hr]; have : b0.n = 0 := rfl; omega
  have b2 : r.2.f.length ≤ 16000 := by have := hbd.f4; have e1 : b0.n = 0 := rfl; have e2 : b0.f.length = 0 := rfl; rw [← hr] at this; omega
  have b3 : r.2.s.length ≤ 4000 := by have := hbd.s1; have e1 : b0.n = 0 := rfl; have e2 : b0.s.length = 0 := rfl; rw [← hr] at this; omega
  clear hr hbd
  simp (disch := omega) only [go_sem, ↓IntWalk.iteOmega, IntWalk.toNatUp, Nat.reduceEqDiff, Nat.reduceAdd, Nat.reduceMul, Nat.reduceSub, Nat.reduceLT, Nat.reduceLeDiff, Int.reduceToNat, Int.reduceLT, Int.reduceLE, Int.reduceEq, Int.reduceAdd, Int.reduceSub, Int.reduceMul, Int.toNat_natCast, reduceCtorEq, decide_true, decide_false, IntWalk.i64_in, IntWalk.u64_in, IntWalk.u8_in, hU, nzBuild]
  refine full_call (hB1.slot2 (fun i j hj => ?_) (by omega)) ?_
  · have : j ≠ 5 := by omega
    simp [upd_app, this]
  intro o2 nx2 hle2 hB2 hk2
  have hx22 : o2 (0, 2) = some (.row ⟨28, 1, (0, 2), false, true, [.int .i64 0, .int .i64 0, .int .i64 0, .nil, .nil]⟩) := by rw [hk2 _ _ (by omega) (fun e => absurd e (by decide)) (by decide) (by decide)]; simp [upd_app, hx2]
  have hx5 : o2 (2, 5) = some (.row ⟨65, 1, (2, 5), false, true, [.int .i64 r.1.1, .int .i64 r.1.2]⟩) := by rw [hk2 _ _ (by omega) (fun e => absurd e (by decide)) (by decide) (by decide)]; simp [upd_app]
  clear hk2 hB1 hx2
  by_cases hfull : (1000 : Int) < r.2.n
  · have e : builtV r = .tup [nfaV 0 0 0 [] [], .int .i64 4] := if_pos (by omega)
    rw [e]
    simp (disch := omega) only [go_sem, ↓IntWalk.iteOmega, IntWalk.toNatUp, Nat.reduceEqDiff, Nat.reduceAdd, Nat.reduceMul, Nat.reduceSub, Nat.reduceLT, Nat.reduceLeDiff, Int.reduceToNat, Int.reduceLT, Int.reduceLE, Int.reduceEq, Int.reduceAdd, Int.reduceSub, Int.reduceMul, Int.toNat_natCast, reduceCtorEq, decide_true, decide_false, IntWalk.i64_in, IntWalk.u64_in, IntWalk.u8_in, hfull, hx22, nzBuild]
    rfl
  · have e : builtV r = .tup [nfaV r.2.n r.1.1 r.1.2 r.2.s r.2.f, .int .i64 0] := if_neg (by omega)
    rw [e]
    obtain ⟨vS, vF, hB⟩ := hB2
    have r1 := hB.lt
    have r2 := hB.row
    have r3 := hB.s.ok
    have r4 := hB.f.ok
    have s0 := cS_inj (x := r.2.s) (y := [])
    have f0 := cP_inj (x := r.2.f) (y := [])
    have l3 := rep_len [.int .i64 0, .int .i64 0, .int .i64 0] r.2.s.length
    have l2 := rep_len [.int .i64 0, .int .i64 0] r.2.f.length
    simp only [List.length_cons, List.length_nil, Nat.zero_add, Nat.reduceAdd] at l3 l2
    have d3 : (rep [.int .i64 0, .int .i64 0, .int .i64 0] r.2.s.length).drop (r.2.s.length * 3) = [] := List.drop_of_length_le (by omega)
    have d2 : (rep [.int .i64 0, .int .i64 0] r.2.f.length).drop (r.2.f.length * 2) = [] := List.drop_of_length_le (by omega)
    rcases hB.s with ⟨rfl, q2, q3⟩ | ⟨i1, g1, rfl, hi1, hrow, hlen⟩
    · rcases hB.f with ⟨rfl, q5, q6⟩ | ⟨i2, g2, rfl, hi2, hrow2, hlen2⟩
      · simp (disch := omega) only [go_sem, ↓IntWalk.iteOmega, IntWalk.toNatUp, Nat.reduceEqDiff, Nat.reduceAdd, Nat.reduceMul, Nat.reduceSub, Nat.reduceLT, Nat.reduceLeDiff, Int.reduceToNat, Int.reduceLT, Int.reduceLE, Int.reduceEq, Int.reduceAdd, Int.reduceSub, Int.reduceMul, Int.toNat_natCast, reduceCtorEq, decide_true, decide_false, IntWalk.i64_in, IntWalk.u64_in, IntWalk.u8_in, hfull, hx22, hx5, r2, nzBuild]
        rw [s0 q3, f0 q6]
        rfl
      · simp (disch := omega) only [go_sem, ↓IntWalk.iteOmega, IntWalk.toNatUp, Nat.reduceEqDiff, Nat.reduceAdd, Nat.reduceMul, Nat.reduceSub, Nat.reduceLT, Nat.reduceLeDiff, Int.reduceToNat, Int.reduceLT, Int.reduceLE, Int.reduceEq, Int.reduceAdd, Int.reduceSub, Int.reduceMul, Int.toNat_natCast, reduceCtorEq, decide_true, decide_false, IntWalk.i64_in, IntWalk.u64_in, IntWalk.u8_in, hfull, hx22, hx5, r2, nzBuild, hrow2, l2, l3, d2, d3]
        rw [s0 q3]
        rfl
    · rcases hB.f with ⟨rfl, q5, q6⟩ | ⟨i2, g2, rfl, hi2, hrow2, hlen2⟩
      · simp (disch := omega) only [go_sem, ↓IntWalk.iteOmega, IntWalk.toNatUp, Nat.reduceEqDiff, Nat.reduceAdd, Nat.reduceMul, Nat.reduceSub, Nat.reduceLT, Nat.reduceLeDiff, Int.reduceToNat, Int.reduceLT, Int.reduceLE, Int.reduceEq, Int.reduceAdd, Int.reduceSub, Int.reduceMul, Int.toNat_natCast, reduceCtorEq, decide_true, decide_false, IntWalk.i64_in, IntWalk.u64_in, IntWalk.u8_in, hfull, hx22, hx5, r2, nzBuild, hrow, l2, l3, d2, d3]
        rw [f0 q6]
        rfl
      · simp (disch := omega) only [go_sem, ↓IntWalk.iteOmega, IntWalk.toNatUp, Nat.reduceEqDiff, Nat.reduceAdd, Nat.reduceMul, Nat.reduceSub, Nat.reduceLT, Nat.reduceLeDiff, Int.reduceToNat, Int.reduceLT, Int.reduceLE, Int.reduceEq, Int.reduceAdd, Int.reduceSub, Int.reduceMul, Int.toNat_natCast, reduceCtorEq, decide_true, decide_false, IntWalk.i64_in, IntWalk.u64_in, IntWalk.u8_in, hfull, hx22, hx5, r2, nzBuild, hrow, hrow2, l2, l3, d2, d3]
end Go.Proofs.Ytcaemgpificohaa.A
/- The document's builder: its small methods. -/
namespace Go.Proofs.Ytcaemgpificohaa.A
open Go
set_option maxRecDepth 20000
structure QRow (o : Ob) (nx : Nat) (t : Nat) (b : BS) (m : Bool) (vS vF : AV) : Prop where
  lt : t < nx
  row : o (t, 8) = some (.row ⟨72, 1, (t, 8), false, true, [.int .i64 b.n, .int .i64 0, .int .i64 0, vS, vF, .bool m]⟩)
  s : HS 48 3 29 o nx vS b.s.length (cS b.s)
  f : HS 49 2 16 o nx vF b.f.length (cP b.f)
def QAt (o : Ob) (nx : Nat) (t : Nat) (b : BS) (m : Bool) : Prop := ∃ vS vF, QRow o nx t b m vS vF
def QKeep (t : Nat) (o : Ob) (nx : Nat) (o' : Ob) : Prop := ∀ i j, i < nx → (j = 8 → i ≠ t) → j ≠ 29 → j ≠ 16 → o' (i, j) = o (i, j)
theorem QKeep.refl (t o nx) : QKeep t o nx o := fun _ _ _ _ _ _ => rfl
theorem QKeep.trans {t o nx o' nx' o''} (h1 : QKeep t o nx o') (h2 : QKeep t o' nx' o'') (h : nx ≤ nx') : QKeep t o nx o'' := fun i j a b c d => by rw [h2 i j (by omega) b c d, h1 i j a b c d]
theorem QKeep.new {t o nx o'} (ho : ∀ i j, i < nx → o' (i, j) = o (i, j)) : QKeep t o nx o' := fun i j hi _ _ _ => ho i j hi
theorem QKeep.row {t o nx o'} (h : QKeep t o nx o') {i j : Nat} {x : Option AObj} (hx : o (i, j) = x) (hi : i < nx) (h1 : j = 8 → i ≠ t) (h2 : j ≠ 29) (h3 : j ≠ 16) : o' (i, j) = x := (h i j hi h1 h2 h3).trans hx
theorem qkeep_upd {t : Nat} {o : Ob} {nx : Nat} {x : AObj} : QKeep t o nx (upd o (t, 8) x) := fun i j hi h1 h2 h3 => upd_ne _ _ _ _ (fun e => by injection e with e1 e2; exact h1 e2 e1)
theorem QAt.new {o nx t b m} (h : QAt o nx t b m) {o' : Ob} {nx' : Nat} (ho : ∀ i j, i < nx → o' (i, j) = o (i, j)) (hn : nx ≤ nx') : QAt o' nx' t b m := by
  obtain ⟨vS, vF, h⟩ := h
  exact ⟨vS, vF, ⟨by have := h.lt; omega, by rw [ho _ _ h.lt]; exact h.row, h.s.keep (fun i hi => ho i _ hi) hn, h.f.keep (fun i hi => ho i _ hi) hn⟩⟩
theorem QAt.slot {o nx t b m} (h : QAt o nx t b m) {o' : Ob} {nx' : Nat} (ho : ∀ i j, (j = 8 ∧ i = t ∨ j = 29 ∨ j = 16) → o' (i, j) = o (i, j)) (hn : nx ≤ nx') : QAt o' nx' t b m := by
  obtain ⟨vS, vF, h⟩ := h
  exact ⟨vS, vF, ⟨by have := h.lt; omega, by rw [ho _ _ (.inl ⟨rfl, rfl⟩)]; exact h.row, h.s.keep (fun i hi => ho i _ (.inr (.inl rfl))) hn, h.f.keep (fun i hi => ho i _ (.inr (.inr rfl))) hn⟩⟩
theorem QAt.eq {o nx t b b' m} (h : QAt o nx t b m) (e : b = b') : QAt o nx t b' m := e ▸ h
theorem QAt.same {o nx t b m} (h : QAt o nx t b m) {b' m'} (h' : QAt o nx t b' m') : b = b' ∧ m = m' := by
  obtain ⟨vS, vF, h⟩ := h
  obtain ⟨vS', vF', h'⟩ := h'
  have := h.row.symm.trans h'.row
  simp only [Option.some.injEq, AObj.row.injEq, Row.mk.injEq, List.cons.injEq, AV.int.injEq, AV.bool.injEq, and_true, true_and] at this
  obtain ⟨e1, rfl, rfl, e4⟩ := this
  have e2 := cS_inj (h.s.same h'.s)
  have e3 := cP_inj (h.f.same h'.f)
  have e1 : b.n = b'.n := by omega
  refine ⟨?_, e4⟩
  cases b; cases b'
  simp only at e1 e2 e3
  rw [e1, e2, e3]
def QTo (t : Nat) (b' : BS) (m' : Bool) (H H' : AH) : Prop := H.nx ≤ H'.nx ∧ QAt H'.o H'.nx t b' m' ∧ QKeep t H.o H.nx H'.o
/-! ### one more state -/
def qState (b : BS) (m : Bool) : Int × BS × Bool := if b.n ≥ 1000 then (0, b, true) else (b.n, b.state, m)
def QState (args : List AV) (H : AH) (v : AV) (H' : AH) : Prop := OkR Try.prog 56 args H v H' ∧ ∀ t b m, args = [bp t] → QAt H.o H.nx t b m → v = .int .i64 (qState b m).1 ∧ QTo t (qState b m).2.1 (qState b m).2.2 H H'
theorem lookQState (X) : lookedAt (EX md0 X) (fun _ => none) 1 Try.f56 = true := by kernel_rfl
theorem qstate_ok {t : Nat} {o : Ob} {nx : Nat} {b : BS} {m : Bool} (h : QAt o nx t b m) (hn : b.n ≤ 1000) : ∃ v H', QState [bp t] ⟨o, nx⟩ v H' := by
  have hh := h
  obtain ⟨vS, vF, h⟩ := h
  obtain ⟨v, H', h1, h2⟩ := okR_of_WP (E := EX md0 (fun _ _ => none)) (cr := noR) (cp_none _) (noR_ok _) mixed (k := 0) (args := [bp t]) (o := o) (nx := nx) (Post := fun v o' nx' => v = .int .i64 (qState b m).1 ∧ QTo t (qState b m).2.1 (qState b m).2.2 ⟨o, nx⟩ ⟨o', nx'⟩) Try.func56 (lookQState _) rfl (by
    have h1 := h.lt
    have h2 := h.row
    have h3 := h.s.ok
    have h4 := h.f.ok
    simp only [Try.f56, Option.getD_some]
    by_cases hb : (1000 : Int) ≤ b.n
    · have e : qState b m = (0, b, true) := if_pos (by omega)
      rw [e]
      simp (disch := omega) only [go_sem, ↓IntWalk.iteOmega, IntWalk.toNatUp, Nat.reduceEqDiff, Nat.reduceAdd, Nat.reduceMul, Nat.reduceSub, Nat.reduceLT, Nat.reduceLeDiff, Int.reduceToNat, Int.reduceLT, Int.reduceLE, Int.reduceEq, Int.reduceAdd, Int.reduceSub, Int.reduceMul, Int.toNat_natCast, reduceCtorEq, decide_true, decide_false, IntWalk.i64_in, IntWalk.u64_in, IntWalk.u8_in, h2, h3, h4, hb]
      exact ⟨by show nx ≤ nx + 1 + 1 + 1 + 1; omega, ⟨vS, vF, ⟨by show t < nx + 1 + 1 + 1 + 1; omega, upd_same _ _ _, h.s.keep (fun _ _ => by simp [upd_app]) (by show nx ≤ nx + 1 + 1 + 1 + 1; omega), h.f.keep (fun _ _ => by simp [upd_app]) (by show nx ≤ nx + 1 + 1 + 1 + 1; omega)⟩⟩, qkeep_upd⟩
    · have e : qState b m = ((b.n : Int), b.state, m) := if_neg (by omega)
      rw [e]
      simp (disch := omega) only [go_sem, ↓IntWalk.iteOmega, IntWalk.toNatUp, Nat.reduceEqDiff, Nat.reduceAdd, Nat.reduceMul, Nat.reduceSub, Nat.reduceLT, Nat.reduceLeDiff, Int.reduceToNat, Int.reduceLT, Int.reduceLE, Int.reduceEq, Int.reduceAdd, Int.reduceSub, Int.reduceMul, Int.toNat_natCast, reduceCtorEq, decide_true, decide_false, IntWalk.i64_in, IntWalk.u64_in, IntWalk.u8_in, h2, h3, h4, hb]
      refine ⟨by rw [Int.add_sub_cancel], by show nx ≤ nx + 1 + 1 + 1 + 1; omega, ⟨vS, vF, ⟨by show t < nx + 1 + 1 + 1 + 1; omega, ?_, h.s.keep (fun _ _ => by simp [upd_app]) (by show nx ≤ nx + 1 + 1 + 1 + 1; omega), h.f.keep (fun _ _ => by simp [upd_app]) (by show nx ≤ nx + 1 + 1 + 1 + 1; omega)⟩⟩, qkeep_upd⟩
      exact upd_same _ _ _)
  refine ⟨v, H', h1, fun t' b' m' e hb => ?_⟩
  simp only [List.cons.injEq, AV.ptr.injEq, Prod.mk.injEq, and_true] at e
  obtain rfl := e.1
  obtain ⟨rfl, rfl⟩ := hh.same hb
  exact h2
theorem qstate_call {t : Nat} {o : Ob} {nx : Nat} {b : BS} {m : Bool} {K : AV × AH → Prop} (h : QAt o nx t b m) (hn : b.n ≤ 1000) (hK : ∀ o' nx', nx ≤ nx' → QAt o' nx' t (qState b m).2.1 (qState b m).2.2 → QKeep t o nx o' → K (.int .i64 (qState b m).1, ⟨o', nx'⟩)) :
    wO (Option.map (fun p => freezeR false p.1 p.2) (cRel QState [bp t] ⟨o, nx⟩)) K := by
  refine cRel_call (qstate_ok h hn) fun v H' hr => ?_
  obtain ⟨rfl, h1, h2, h3⟩ := hr.2 t b m rfl h
  exact hK H'.o H'.nx h1 h2 h3
/-! ### a free one -/
def QFree (args : List AV) (H : AH) (v : AV) (H' : AH) : Prop := OkR Try.prog 63 args H v H' ∧ ∀ t b m x y, args = [bp t, .int .i64 x, .int .i64 y] → QAt H.o H.nx t b m → v = .tup [] ∧ QTo t (b.free x y) m H H'
theorem lookQFree (X) : lookedAt (EX md0 X) (fun _ => none) 3 Try.f63 = true := by kernel_rfl
theorem qfree_ok {t : Nat} {o : Ob} {nx : Nat} {b : BS} {m : Bool} (h : QAt o nx t b m) (x y : Int) (hn : b.f.length ≤ 100000000) : ∃ v H', QFree [bp t, .int .i64 x, .int .i64 y] ⟨o, nx⟩ v H' := by
  have hh := h
  obtain ⟨vS, vF, h⟩ := h
  obtain ⟨v, H', h1, h2⟩ := okR_of_WP (E := EX md0 (fun _ _ => none)) (cr := noR) (cp_none _) (noR_ok _) mixed (k := 0) (args := [bp t, .int .i64 x, .int .i64 y]) (o := o) (nx := nx) (Post := fun v o' nx' => v = .tup [] ∧ QTo t (b.free x y) m ⟨o, nx⟩ ⟨o', nx'⟩) Try.func63 (lookQFree _) rfl (by
    have h0 := h.lt
    have h2 := h.row
    have h3 := h.s.ok
    have h4 := h.f.ok
    have hs := h.s
    simp only [Try.f63, Option.getD_some]
    rcases h.f with ⟨rfl, e2, e3⟩ | ⟨i1, g1, rfl, hi1, hrow, hlen⟩
    · simp (disch := omega) only [go_sem, ↓IntWalk.iteOmega, IntWalk.toNatUp, Nat.reduceEqDiff, Nat.reduceAdd, Nat.reduceMul, Nat.reduceSub, Nat.reduceLT, Nat.reduceLeDiff, Int.reduceToNat, Int.reduceLT, Int.reduceLE, Int.reduceEq, Int.reduceAdd, Int.reduceSub, Int.reduceMul, Int.toNat_natCast, reduceCtorEq, decide_true, decide_false, IntWalk.i64_in, IntWalk.u64_in, IntWalk.u8_in, h2, h3, h4]
      refine ⟨rfl, by show nx ≤ nx + 1; omega, ⟨vS, _, ⟨by show t < nx + 1; omega, upd_same _ _ _, hs.keep (fun _ _ => by simp [upd_app]) (by show nx ≤ nx + 1; omega), .inr ⟨nx, (nx, 16), by simp [BS.free, e2], by show _ < nx + 1; omega, ?_, ?_⟩⟩⟩, ?_⟩
      · simp [upd_app, BS.free, cP, List.length_eq_zero_iff.1 e2]
      · simp [BS.free, cP_length]
      · intro i j hi a1 a2 a3
        have : i ≠ nx := by have : i < nx := hi; omega
        simp (disch := omega) [upd_app, this, a3, a2]
        intro hj
        have := a1 hj
        simp [this, hj]
    · simp (disch := omega) only [go_sem, ↓IntWalk.iteOmega, IntWalk.toNatUp, Nat.reduceEqDiff, Nat.reduceAdd, Nat.reduceMul, Nat.reduceSub, Nat.reduceLT, Nat.reduceLeDiff, Int.reduceToNat, Int.reduceLT, Int.reduceLE, Int.reduceEq, Int.reduceAdd, Int.reduceSub, Int.reduceMul, Int.toNat_natCast, reduceCtorEq, decide_true, decide_false, IntWalk.i64_in, IntWalk.u64_in, IntWalk.u8_in, h2, h3, h4, hrow]
      refine ⟨rfl, by show nx ≤ nx + 1; omega, ⟨vS, _, ⟨by show t < nx + 1; omega, upd_same _ _ _, hs.keep (fun _ _ => by simp [upd_app]) (by show nx ≤ nx + 1; omega), .inr ⟨i1, (nx, 16), by simp [BS.free], by show _ < nx + 1; omega, ?_, ?_⟩⟩⟩, ?_⟩
      · simp [upd_app, BS.free, cP]
      · simp [BS.free, cP_length]
      · intro i j hi a1 a2 a3
        have : i ≠ nx := by have : i < nx := hi; omega
        simp (disch := omega) [upd_app, this, a3, a2]
        intro hj
        have := a1 hj
        simp [this, hj])
  refine ⟨v, H', h1, fun t' b' m' x' y' e hb => ?_⟩
  simp only [List.cons.injEq, AV.ptr.injEq, Prod.mk.injEq, AV.int.injEq, and_true, true_and] at e
  obtain ⟨⟨rfl, _⟩, rfl, rfl⟩ := e
  obtain ⟨rfl, rfl⟩ := hh.same hb
  exact h2
theorem qfree_call {t : Nat} {o : Ob} {nx : Nat} {b : BS} {m : Bool} {K : AV × AH → Prop} (h : QAt o nx t b m) (x y : Int) (hn : b.f.length ≤ 100000000) (hK : ∀ o' nx', nx ≤ nx' → QAt o' nx' t (b.free x y) m → QKeep t o nx o' → K (.tup [], ⟨o', nx'⟩)) :
    wO (Option.map (fun p => freezeR false p.1 p.2) (cRel QFree [bp t, .int .i64 x, .int .i64 y] ⟨o, nx⟩)) K := by
  refine cRel_call (qfree_ok h x y hn) fun v H' hr => ?_
  obtain ⟨rfl, h1, h2, h3⟩ := hr.2 t b m x y rfl h
  exact hK H'.o H'.nx h1 h2 h3
end Go.Proofs.Ytcaemgpificohaa.A
