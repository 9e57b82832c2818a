/- Make: a machine out of numbers. -/
import Derived.Test.YtcaemgpificohaaC6
set_option linter.unusedVariables false
set_option linter.unusedSimpArgs false
set_option linter.unnecessarySimpa false
namespace Go.Proofs.Ytcaemgpificohaa.A
open Go
set_option maxRecDepth 20000
def isFree (k : Int) : Bool := decide (k % 3 = 0)
def freeOf' (N k : Int) : Int × Int := (IntKind.i64.wrap (k.tdiv 3) % N, IntKind.i64.wrap (k.tdiv 23) % N)
def stepOf' (N k : Int) : Int × Int × Int := (IntKind.i64.wrap (k.tdiv 3) % N, IntKind.i64.wrap (k.tdiv 23) % N, 1 + IntKind.i64.wrap (k.tdiv 170) % 31)
def freesOf (N : Int) (ns : List Int) : List (Int × Int) := (ns.filter isFree).map (freeOf' N)
def stepsOf (N : Int) (ns : List Int) : List (Int × Int × Int) := (ns.filter fun k => !isFree k).map (stepOf' N)
def sizeN (size : Int) : Nat := (1 + size % 7).toNat
theorem sizeN_eq (size : Int) : (sizeN size : Int) = 1 + size % 7 := by
  have := Int.emod_nonneg size (show (7 : Int) ≠ 0 by decide)
  unfold sizeN; omega
theorem sizeN_in (size : Int) : 1 ≤ sizeN size ∧ sizeN size ≤ 7 := by
  have := Int.emod_nonneg size (show (7 : Int) ≠ 0 by decide)
  have := Int.emod_lt_of_pos size (show (0 : Int) < 7 by decide)
  unfold sizeN; omega
theorem freesOf_snoc (N ns k) : freesOf N (ns ++ [k]) = freesOf N ns ++ (if isFree k then [freeOf' N k] else []) := by
  unfold freesOf
  rw [List.filter_append, List.map_append]
  congr 1
  cases h : isFree k <;> simp [h]
theorem stepsOf_snoc (N ns k) : stepsOf N (ns ++ [k]) = stepsOf N ns ++ (if isFree k then [] else [stepOf' N k]) := by
  unfold stepsOf
  rw [List.filter_append, List.map_append]
  congr 1
  cases h : isFree k <;> simp [h]
theorem freesOf_le (N ns) : (freesOf N ns).length ≤ ns.length := by unfold freesOf; rw [List.length_map]; exact List.length_filter_le _ _
theorem stepsOf_le (N ns) : (stepsOf N ns).length ≤ ns.length := by unfold stepsOf; rw [List.length_map]; exact List.length_filter_le _ _
/-- The machine that Make makes. -/
theorem make_wf (size : Int) (ns : List Int) (start end_ : Int) : Wf (sizeN size) (start % sizeN size) (end_ % sizeN size) (stepsOf (sizeN size) (ns.take 14)) (freesOf (sizeN size) (ns.take 14)) := by
  obtain ⟨h1, h2⟩ := sizeN_in size
  have hm : ∀ x : Int, 0 ≤ x % (sizeN size : Int) ∧ x % (sizeN size : Int) < sizeN size := fun x => ⟨Int.emod_nonneg _ (by omega), Int.emod_lt_of_pos _ (by omega)⟩
  have hl : (ns.take 14).length ≤ 14 := by rw [List.length_take]; omega
  refine ⟨by omega, hm _, hm _, ?_, ?_, fun p hp => ?_, fun p hp => ?_⟩
  · have := stepsOf_le (sizeN size) (ns.take 14); omega
  · have := freesOf_le (sizeN size) (ns.take 14); omega
  · obtain ⟨k, _, rfl⟩ := List.mem_map.1 hp
    exact ⟨hm _, hm _⟩
  · obtain ⟨k, _, rfl⟩ := List.mem_map.1 hp
    exact ⟨hm _, hm _⟩
def nz23' : Nat → Option (List (Nat × Nat))
  | 8 => some [(1, 13)]
  | 9 => some [(1, 17)]
  | _ => none
noncomputable def X23 : FuncId → List AV → Option AV := tabLook [(25, tRel RW)]
theorem X23_ok : CPSound Try.prog X23 := tab_cons (tab_nil _) (tRel_ok within0_ok)
theorem X23_eq (a n : Int) (h1 : 0 < n) (h2 : n ≤ 1000000) : X23 25 [.int .i64 a, .int .i64 n] = some (.int .i64 (a % n)) := rw_eq h1 h2
/-- What stands in memory behind it. -/
structure Made (o0 : Ob) (nx0 : Nat) (N : Nat) (S F : Int) (ss : List (Int × Int × Int)) (fs : List (Int × Int)) (vS vF : AV) (o : Ob) (nx : Nat) : Prop where
  le : nx0 ≤ nx
  s : HS 48 3 77 o nx vS ss.length (cS ss)
  f : HS 49 2 57 o nx vF fs.length (cP fs)
  keep : ∀ i j, i < nx0 → o (i, j) = o0 (i, j)
  ls : ∀ i g n, vS = .ref (i, 77) g 0 n → nx0 ≤ i
  lf : ∀ i g n, vF = .ref (i, 57) g 0 n → nx0 ≤ i
theorem make_wp (cr k) (size : Int) (ns : List Int) (start end_ : Int) (o0 : Ob) (nx0 : Nat) (hk : 15 < k) :
    WP (EX md0 X23) cr k nz23' (Try.f23.body.getD .skip) (begin_ [.int .i64 size, slI ns, .int .i64 start, .int .i64 end_]) o0 nx0 (fun u a o nx => u = .ret ∧ ∃ vS vF, Made o0 nx0 (sizeN size) (start % sizeN size) (end_ % sizeN size) (stepsOf (sizeN size) (ns.take 14)) (freesOf (sizeN size) (ns.take 14)) vS vF o nx ∧
      a 8 = .ptr (nx0, 8) (nx0, 8) 0 ∧ o (nx0, 8) = some (.row ⟨28, 1, (nx0, 8), false, true, [.int .i64 (sizeN size), .int .i64 (start % sizeN size), .int .i64 (end_ % sizeN size), vS, vF]⟩)) := by
  have hX := X23_eq
  obtain ⟨hN1, hN7⟩ := sizeN_in size
  have hsz := sizeN_eq size
  simp only [Try.f23, Option.getD_some]
  generalize sizeN size = N at hN1 hN7 hsz
  simp (disch := omega) only [go_sem, ↓IntWalk.iteOmega, IntWalk.toNatUp, Nat.reduceEqDiff, Nat.reduceAdd, Nat.reduceMul, Nat.reduceSub, Nat.reduceLT, Nat.reduceLeDiff, Int.reduceToNat, Int.reduceLT, Int.reduceLE, Int.reduceEq, Int.reduceAdd, Int.reduceSub, Int.reduceMul, Int.toNat_natCast, reduceCtorEq, decide_true, decide_false, IntWalk.i64_in, IntWalk.u64_in, IntWalk.u8_in, nz23', hX, hsz.symm]
  have hmS : ∀ x : Int, 0 ≤ x % (N : Int) ∧ x % (N : Int) < N := fun x => ⟨Int.emod_nonneg _ (by omega), Int.emod_lt_of_pos _ (by omega)⟩
  refine WP_loop (fun m a o nx => ∃ i vS vF, i ≤ ns.length ∧ i ≤ 14 ∧ m = 14 - i ∧ nx0 + 2 ≤ nx ∧ a 1 = slI ns ∧ a 8 = .ptr (nx0, 8) (nx0, 8) 0 ∧ a 9 = .ptr (nx0 + 1, 9) (nx0 + 1, 9) 0 ∧ a 10 = .int .i64 i ∧
    Made o0 nx0 N (start % N) (end_ % N) (stepsOf N (ns.take i)) (freesOf N (ns.take i)) vS vF o nx ∧ o (nx0 + 1, 9) = some (.row ⟨28, 1, (nx0 + 1, 9), false, true, [.int .i64 N, .int .i64 (start % N), .int .i64 (end_ % N), vS, vF]⟩) ∧
    o (nx0, 8) = some (.row ⟨28, 1, (nx0, 8), false, true, [.int .i64 0, .int .i64 0, .int .i64 0, .nil, .nil]⟩)) 14 ?_ ?_ ?_
  · omega
  · refine ⟨0, .nil, .nil, by omega, by omega, by omega, by omega, ?_⟩
    simp (disch := omega) only [go_sem, ↓IntWalk.iteOmega, IntWalk.toNatUp, Nat.reduceEqDiff, Nat.reduceAdd, Nat.reduceMul, Nat.reduceSub, Nat.reduceLT, Nat.reduceLeDiff, Int.reduceToNat, Int.reduceLT, Int.reduceLE, Int.reduceEq, Int.reduceAdd, Int.reduceSub, Int.reduceMul, Int.toNat_natCast, reduceCtorEq, decide_true, decide_false, IntWalk.i64_in, IntWalk.u64_in, IntWalk.u8_in, List.take_zero]
    exact ⟨by omega, HS.nil, HS.nil, fun i j h => by simp (disch := omega) only [upd_fst], fun i g n h => (by cases h), fun i g n h => (by cases h)⟩
  · rintro m a o nx ⟨i, vS, vF, hi, him, rfl, hnx, h1, h8, h9, h10, hM, ho9, ho8⟩
    obtain ⟨hle, hHS, hHF, hkeep, hls, hlf⟩ := hM
    have hokS := hHS.ok
    have hokF := hHF.ok
    by_cases hlt : i < ns.length
    · by_cases hlm : i < 14
      · have hg := cI_get (s := 1) hlt
        have htk := take_succ_getD hlt 0
        have hsl := stepsOf_le N (ns.take i)
        have hfl := freesOf_le N (ns.take i)
        rw [List.length_take] at hsl hfl
        generalize ns.getD i 0 = x at hg htk
        have hfs := freesOf_snoc N (ns.take i) x
        have hss := stepsOf_snoc N (ns.take i) x
        rw [← htk] at hfs hss
        by_cases hf : x % 3 = 0
        · have hfd : isFree x = true := decide_eq_true hf
          rw [hfd, if_pos rfl] at hfs hss
          rw [List.append_nil] at hss
          rcases hHF with ⟨rfl, e2, e3⟩ | ⟨i1, g1, rfl, hi1, hrow, hlen⟩
          · simp (disch := omega) only [go_sem, ↓IntWalk.iteOmega, IntWalk.toNatUp, Nat.reduceEqDiff, Nat.reduceAdd, Nat.reduceMul, Nat.reduceSub, Nat.reduceLT, Nat.reduceLeDiff, Int.reduceToNat, Int.reduceLT, Int.reduceLE, Int.reduceEq, Int.reduceAdd, Int.reduceSub, Int.reduceMul, Int.toNat_natCast, reduceCtorEq, decide_true, decide_false, IntWalk.i64_in, IntWalk.u64_in, IntWalk.u8_in, h1, h8, h9, h10, ho9, ho8, hg, hX, hf, nz23', hokS, hokF]
            refine ⟨_, ?_, i + 1, vS, _, by omega, by omega, rfl, by omega, rfl, ⟨by omega, by rw [hss]; exact hHS.keep (fun _ _ => by simp [upd_app]) (by omega), by rw [hfs, List.length_eq_zero_iff.1 e2]; exact .inr ⟨nx + 3, _, rfl, by omega, by simp [upd_app, cP, freeOf'], rfl⟩, fun i' j' h => ?_, hls, fun i' g' n' h => (by injection h with h; injection h with h; omega)⟩, rfl⟩
            · omega
            · rw [← hkeep i' j' h]; simp (disch := omega) only [upd_fst]
          · have hi1' := by first | exact hlf i1 _ _ rfl | exact hls i1 _ _ rfl
            simp (disch := omega) only [go_sem, ↓IntWalk.iteOmega, IntWalk.toNatUp, Nat.reduceEqDiff, Nat.reduceAdd, Nat.reduceMul, Nat.reduceSub, Nat.reduceLT, Nat.reduceLeDiff, Int.reduceToNat, Int.reduceLT, Int.reduceLE, Int.reduceEq, Int.reduceAdd, Int.reduceSub, Int.reduceMul, Int.toNat_natCast, reduceCtorEq, decide_true, decide_false, IntWalk.i64_in, IntWalk.u64_in, IntWalk.u8_in, h1, h8, h9, h10, ho9, ho8, hg, hX, hf, nz23', hokS, hokF, hrow]
            refine ⟨_, ?_, i + 1, vS, _, by omega, by omega, rfl, by omega, rfl, ⟨by omega, by rw [hss]; exact hHS.keep (fun _ _ => by simp [upd_app]) (by omega), by rw [hfs, List.length_append, cP_app]; exact .inr ⟨i1, _, rfl, by omega, by simp [upd_app, cP, freeOf'], by rw [List.length_append, cP_length]; simp [cP]; omega⟩, fun i' j' h => ?_, hls, fun i' g' n' h => (by injection h with h; injection h with h; omega)⟩, rfl⟩
            · omega
            · rw [← hkeep i' j' h]; simp (disch := omega) only [upd_fst]
        · have hfd : isFree x = false := decide_eq_false hf
          rw [hfd, if_neg (by simp)] at hfs hss
          rw [List.append_nil] at hfs
          rcases hHS with ⟨rfl, e2, e3⟩ | ⟨i1, g1, rfl, hi1, hrow, hlen⟩
          · simp (disch := omega) only [go_sem, ↓IntWalk.iteOmega, IntWalk.toNatUp, Nat.reduceEqDiff, Nat.reduceAdd, Nat.reduceMul, Nat.reduceSub, Nat.reduceLT, Nat.reduceLeDiff, Int.reduceToNat, Int.reduceLT, Int.reduceLE, Int.reduceEq, Int.reduceAdd, Int.reduceSub, Int.reduceMul, Int.toNat_natCast, reduceCtorEq, decide_true, decide_false, IntWalk.i64_in, IntWalk.u64_in, IntWalk.u8_in, h1, h8, h9, h10, ho9, ho8, hg, hX, hf, nz23', hokS, hokF]
            refine ⟨_, ?_, i + 1, _, vF, by omega, by omega, rfl, by omega, rfl, ⟨by omega, by rw [hss, List.length_eq_zero_iff.1 e2]; exact .inr ⟨nx + 3, _, rfl, by omega, by simp [upd_app, cS, stepOf'], rfl⟩, by rw [hfs]; exact hHF.keep (fun _ _ => by simp [upd_app]) (by omega), fun i' j' h => ?_, fun i' g' n' h => (by injection h with h; injection h with h; omega), hlf⟩, rfl⟩
            · omega
            · rw [← hkeep i' j' h]; simp (disch := omega) only [upd_fst]
          · have hi1' := by first | exact hlf i1 _ _ rfl | exact hls i1 _ _ rfl
            simp (disch := omega) only [go_sem, ↓IntWalk.iteOmega, IntWalk.toNatUp, Nat.reduceEqDiff, Nat.reduceAdd, Nat.reduceMul, Nat.reduceSub, Nat.reduceLT, Nat.reduceLeDiff, Int.reduceToNat, Int.reduceLT, Int.reduceLE, Int.reduceEq, Int.reduceAdd, Int.reduceSub, Int.reduceMul, Int.toNat_natCast, reduceCtorEq, decide_true, decide_false, IntWalk.i64_in, IntWalk.u64_in, IntWalk.u8_in, h1, h8, h9, h10, ho9, ho8, hg, hX, hf, nz23', hokS, hokF, hrow]
            refine ⟨_, ?_, i + 1, _, vF, by omega, by omega, rfl, by omega, rfl, ⟨by omega, by rw [hss, List.length_append, cS_app]; exact .inr ⟨i1, _, rfl, by omega, by simp [upd_app, cS, stepOf'], by rw [List.length_append, cS_length]; simp [cS]; omega⟩, by rw [hfs]; exact hHF.keep (fun _ _ => by simp [upd_app]) (by omega), fun i' j' h => ?_, fun i' g' n' h => (by injection h with h; injection h with h; omega), hlf⟩, rfl⟩
            · omega
            · rw [← hkeep i' j' h]; simp (disch := omega) only [upd_fst]
      · have hie : i = 14 := by omega
        rw [hie] at hHS hHF
        simp (disch := omega) only [go_sem, ↓IntWalk.iteOmega, IntWalk.toNatUp, Nat.reduceEqDiff, Nat.reduceAdd, Nat.reduceMul, Nat.reduceSub, Nat.reduceLT, Nat.reduceLeDiff, Int.reduceToNat, Int.reduceLT, Int.reduceLE, Int.reduceEq, Int.reduceAdd, Int.reduceSub, Int.reduceMul, Int.toNat_natCast, reduceCtorEq, decide_true, decide_false, IntWalk.i64_in, IntWalk.u64_in, IntWalk.u8_in, h1, h8, h9, h10, ho9, ho8, hokS, hokF]
        exact ⟨vS, vF, ⟨by omega, hHS.keep (fun _ _ => by simp [upd_app]) (by omega), hHF.keep (fun _ _ => by simp [upd_app]) (by omega), fun i' j' h => by rw [← hkeep i' j' h]; simp (disch := omega) only [upd_fst], hls, hlf⟩, rfl⟩
    · have e : ns.take i = ns.take 14 := by rw [List.take_of_length_le (by omega), List.take_of_length_le (by omega)]
      rw [e] at hHS hHF
      simp (disch := omega) only [go_sem, ↓IntWalk.iteOmega, IntWalk.toNatUp, Nat.reduceEqDiff, Nat.reduceAdd, Nat.reduceMul, Nat.reduceSub, Nat.reduceLT, Nat.reduceLeDiff, Int.reduceToNat, Int.reduceLT, Int.reduceLE, Int.reduceEq, Int.reduceAdd, Int.reduceSub, Int.reduceMul, Int.toNat_natCast, reduceCtorEq, decide_true, decide_false, IntWalk.i64_in, IntWalk.u64_in, IntWalk.u8_in, h1, h8, h9, h10, ho9, ho8, hokS, hokF]
      exact ⟨vS, vF, ⟨by omega, hHS.keep (fun _ _ => by simp [upd_app]) (by omega), hHF.keep (fun _ _ => by simp [upd_app]) (by omega), fun i' j' h => by rw [← hkeep i' j' h]; simp (disch := omega) only [upd_fst], hls, hlf⟩, rfl⟩
theorem look23 (X) : lookedAt (EX md0 X) nz23' 4 Try.f23 = true := by kernel_rfl
abbrev madeV (size : Int) (ns : List Int) (start end_ : Int) : AV := nfaV (sizeN size) (start % sizeN size) (end_ % sizeN size) (stepsOf (sizeN size) (ns.take 14)) (freesOf (sizeN size) (ns.take 14))
theorem make_ok (size : Int) (ns : List Int) (start end_ : Int) : Ok Try.prog 23 [.int .i64 size, slI ns, .int .i64 start, .int .i64 end_] (madeV size ns start end_) := by
  refine ok_of_WP (E := EX md0 X23) (cr := noR) X23_ok (noR_ok _) mixed (k := 16) Try.func23 (look23 _) rfl (WP_mono (make_wp _ _ size ns start end_ _ _ (by omega)) ?_)
  rintro u a o nx ⟨rfl, vS, vF, hM, h8, ho8⟩
  have v1 := hM.s.view 10
  have v2 := hM.f.view 10
  rw [view_cS] at v1
  rw [view_cP] at v2
  refine ⟨.inr rfl, ?_⟩
  simp only [Try.f23]
  simp (disch := omega) only [go_sem, ↓IntWalk.iteOmega, IntWalk.toNatUp, Nat.reduceEqDiff, Nat.reduceAdd, Nat.reduceMul, Nat.reduceSub, Nat.reduceLT, Nat.reduceLeDiff, Int.reduceToNat, Int.reduceLT, Int.reduceLE, Int.reduceEq, Int.reduceAdd, Int.reduceSub, Int.reduceMul, Int.toNat_natCast, reduceCtorEq, decide_true, decide_false, IntWalk.i64_in, IntWalk.u64_in, IntWalk.u8_in, h8, ho8, v1, v2]
end Go.Proofs.Ytcaemgpificohaa.A
