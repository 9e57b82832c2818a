/- DfaTakes answers true for whatever it is called with; the input reads as it did. -/
import Derived.Test.YthhfjjnhkifbfaaDoorMLDTakes1
import Derived.Test.YthhfjjnhkifbfaaDoorMLDTakes2
import Derived.Test.YthhfjjnhkifbfaaDoorMLDTakes3
import Derived.Test.YthhfjjnhkifbfaaDoorMLDTakes4
import Derived.Test.YthhfjjnhkifbfaaDoorMLDTakes5
import Derived.Test.YthhfjjnhkifbfaaDoorMLDTakes6
import Derived.Test.YthhfjjnhkifbfaaDoorMLDTakes7
import Derived.Test.YthhfjjnhkifbfaaDoorMLDTakes8
import Derived.Test.YthhfjjnhkifbfaaDoorMLDTakes9
import Derived.Test.YthhfjjnhkifbfaaDoorMLDTakes10
set_option linter.unusedVariables false
set_option linter.unusedSimpArgs false
set_option linter.unnecessarySimpa false
/- law7.Make: machines of one way, of numbers. -/
namespace Go.Proofs.YthhfjjnhkifbfaaDoor.A
open Go
set_option maxRecDepth 20000
def size7 (size : Int) : Nat := (1 + size % 9).toNat
theorem size7_in (size : Int) : 1 ≤ size7 size ∧ size7 size ≤ 9 ∧ (size7 size : Int) = 1 + size % 9 := by
  have h1 := Int.emod_nonneg size (show (9 : Int) ≠ 0 by decide)
  have h2 := Int.emod_lt_of_pos size (show (0 : Int) < 9 by decide)
  unfold size7; omega
/-- Where a state leads by a mode: by number. -/
def ent7 (n : Nat) (ns : List Int) (acc : Int) (k : Nat) : Int := if k < ns.length then ns.getD k 0 % n else IntKind.i64.wrap ((k / 5 : Nat) + IntKind.i64.wrap ((k % 5 : Nat) * acc)) % n
def next7 (n : Nat) (ns : List Int) (acc : Int) (i : Nat) : List Int := (List.range (i * 5)).map (ent7 n ns acc)
def acc7 (acc : Int) (i : Nat) : Bool := decide (acc.fdiv (2 ^ min i 64) % 2 = 1)
def accs7 (acc : Int) (i : Nat) : List Bool := (List.range i).map (acc7 acc)
def row7 (n : Nat) (ns : List Int) (acc : Int) (i m : Nat) : List Int := (List.range 5).map fun j => if j < m then ent7 n ns acc (i * 5 + j) else 0
theorem next7_len (n ns acc i) : (next7 n ns acc i).length = i * 5 := by simp [next7]
theorem accs7_len (acc i) : (accs7 acc i).length = i := by simp [accs7]
theorem row7_len (n ns acc i m) : (row7 n ns acc i m).length = 5 := by simp [row7]
theorem row7_zero (n ns acc i) : row7 n ns acc i 0 = [0, 0, 0, 0, 0] := by simp [row7]; decide
theorem row7_set (n ns acc i) {m : Nat} (h : m < 5) : (row7 n ns acc i m).set m (ent7 n ns acc (i * 5 + m)) = row7 n ns acc i (m + 1) := by
  refine List.ext_getElem (by simp [row7]) fun j h1 h2 => ?_
  simp only [row7, List.getElem_set, List.getElem_map, List.getElem_range]
  by_cases hj : m = j
  · subst hj; simp
  · rw [if_neg hj]
    by_cases hjm : j < m
    · rw [if_pos hjm, if_pos (by omega)]
    · rw [if_neg hjm, if_neg (by omega)]
theorem next7_succ (n ns acc i) : next7 n ns acc (i + 1) = next7 n ns acc i ++ row7 n ns acc i 5 := by
  have : (i + 1) * 5 = i * 5 + 5 := by omega
  rw [next7, this, List.range_add, List.map_append, List.map_map]
  congr 1
theorem accs7_succ (acc i) : accs7 acc (i + 1) = accs7 acc i ++ [acc7 acc i] := by
  rw [accs7, List.range_succ, List.map_append]; rfl
theorem wf7 (size : Int) (ns : List Int) (acc : Int) : WfD (size7 size) (next7 (size7 size) ns acc (size7 size)) (accs7 acc (size7 size)) := by
  obtain ⟨h1, h2, _⟩ := size7_in size
  refine ⟨⟨h1, by omega⟩, by rw [next7_len]; omega, accs7_len .., fun x hx => ?_⟩
  obtain ⟨k, _, rfl⟩ := List.mem_map.1 hx
  have hp : (0 : Int) < size7 size := by omega
  unfold ent7
  split <;> exact ⟨Int.emod_nonneg _ (by omega), Int.emod_lt_of_pos _ hp⟩
noncomputable def XW7 : FuncId → List AV → Option AV := tabLook [(14, tRel RW)]
theorem XW7_ok : CPSound Tryd.prog XW7 := tab_cons (tab_nil _) (tRel_ok within3_ok)
theorem XW7_eq (a n : Int) (h1 : 0 < n) (h2 : n ≤ 1000000) : XW7 14 [.int .i64 a, .int .i64 n] = some (.int .i64 (a % n)) := rw_eq h1 h2
def nz7 (id : Nat) : Option (List (Nat × Nat)) := if id = 15 then some [(1, 4), (1, 8)] else none
theorem HS.of {e sz D o nx j g n cs} (hj : j < nx) (h : o (j, D) = some (.row ⟨e, sz, g, false, true, cs⟩)) (hl : cs.length = n * sz) : HS e sz D o nx (.ref (j, D) g 0 n) n cs := .inr ⟨j, g, rfl, hj, h, hl⟩
theorem HS.of1 {e sz D o nx j g m n cs} (hm : m = n) (hj : j < nx) (h : o (j, D) = some (.row ⟨e, sz, g, false, true, cs⟩)) (hl : cs.length = n * sz) : HS e sz D o nx (.ref (j, D) g 0 m) n cs := by subst hm; exact HS.of hj h hl
theorem look7M (X) : lookedAt (EX md0 X) nz7 3 Tryd.f11 = true := by kernel_rfl
structure Made7 (o0 : Ob) (nx0 : Nat) (n : Nat) (ns : List Int) (acc : Int) (i : Nat) (vN vA : AV) (o : Ob) (nx : Nat) : Prop where
  le : nx0 ≤ nx
  n : HS 31 5 54 o nx vN i (cI (next7 n ns acc i))
  a : HS 4 1 65 o nx vA i (cB (accs7 acc i))
  keep : ∀ i j, i < nx0 → o (i, j) = o0 (i, j)
  ln : ∀ i g k, vN = .ref (i, 54) g 0 k → nx0 ≤ i
  la : ∀ i g k, vA = .ref (i, 65) g 0 k → nx0 ≤ i
theorem make7_wp (cr) (size : Int) (ns : List Int) (acc : Int) (o0 : Ob) (nx0 : Nat) :
    WP (EX md0 XW7) cr 20 nz7 (Tryd.f11.body.getD .skip) (begin_ [.int .i64 size, slI ns, .int .i64 acc]) o0 nx0 (fun u a o nx => u = .ret ∧ ∃ vN vA, Made7 o0 nx0 (size7 size) ns acc (size7 size) vN vA o nx ∧
      a 6 = .ptr (nx0, 6) (nx0, 6) 0 ∧ o (nx0, 6) = some (.row ⟨25, 1, (nx0, 6), false, true, [vN, vA]⟩)) := by
  have hX := XW7_eq
  obtain ⟨hN1, hN9, hsz⟩ := size7_in size
  simp only [Tryd.f11, Option.getD_some]
  generalize size7 size = n at hN1 hN9 hsz
  simp (disch := omega) only [go_sem, ↓IntWalk.iteOmega, IntWalk.toNatUp, Nat.reduceEqDiff, Nat.reduceAdd, Nat.reduceMul, Nat.reduceSub, Nat.reduceLT, Nat.reduceLeDiff, Int.reduceToNat, Int.reduceLT, Int.reduceLE, Int.reduceEq, Int.reduceAdd, Int.reduceSub, Int.reduceMul, Int.toNat_natCast, reduceCtorEq, decide_true, decide_false, IntWalk.i64_in, IntWalk.u64_in, IntWalk.u8_in, nz7, hX, hsz.symm]
  refine WP_loop (fun m a o nx => ∃ i vN vA, i ≤ n ∧ m = n - i ∧ nx0 + 2 ≤ nx ∧ a 1 = slI ns ∧ a 2 = .int .i64 acc ∧ a 6 = .ptr (nx0, 6) (nx0, 6) 0 ∧ a 7 = .ptr (nx0 + 1, 7) (nx0 + 1, 7) 0 ∧ a 8 = .int .i64 n ∧ a 9 = .int .i64 i ∧
    Made7 o0 nx0 n ns acc i vN vA o nx ∧ o (nx0 + 1, 7) = some (.row ⟨25, 1, (nx0 + 1, 7), false, true, [vN, vA]⟩) ∧
    o (nx0, 6) = some (.row ⟨25, 1, (nx0, 6), false, true, [.nil, .nil]⟩)) n (by omega) ⟨0, .nil, .nil, by omega, by omega, by omega, by simp (disch := omega) only [go_sem, ↓IntWalk.iteOmega, IntWalk.toNatUp, Nat.reduceEqDiff, Nat.reduceAdd, Nat.reduceMul, Nat.reduceSub, Nat.reduceLT, Nat.reduceLeDiff, Int.reduceToNat, Int.reduceLT, Int.reduceLE, Int.reduceEq, Int.reduceAdd, Int.reduceSub, Int.reduceMul, Int.toNat_natCast, reduceCtorEq, decide_true, decide_false, IntWalk.i64_in, IntWalk.u64_in, IntWalk.u8_in], by simp (disch := omega) only [go_sem, ↓IntWalk.iteOmega, IntWalk.toNatUp, Nat.reduceEqDiff, Nat.reduceAdd, Nat.reduceMul, Nat.reduceSub, Nat.reduceLT, Nat.reduceLeDiff, Int.reduceToNat, Int.reduceLT, Int.reduceLE, Int.reduceEq, Int.reduceAdd, Int.reduceSub, Int.reduceMul, Int.toNat_natCast, reduceCtorEq, decide_true, decide_false, IntWalk.i64_in, IntWalk.u64_in, IntWalk.u8_in], by simp (disch := omega) only [go_sem, ↓IntWalk.iteOmega, IntWalk.toNatUp, Nat.reduceEqDiff, Nat.reduceAdd, Nat.reduceMul, Nat.reduceSub, Nat.reduceLT, Nat.reduceLeDiff, Int.reduceToNat, Int.reduceLT, Int.reduceLE, Int.reduceEq, Int.reduceAdd, Int.reduceSub, Int.reduceMul, Int.toNat_natCast, reduceCtorEq, decide_true, decide_false, IntWalk.i64_in, IntWalk.u64_in, IntWalk.u8_in], by simp (disch := omega) only [go_sem, ↓IntWalk.iteOmega, IntWalk.toNatUp, Nat.reduceEqDiff, Nat.reduceAdd, Nat.reduceMul, Nat.reduceSub, Nat.reduceLT, Nat.reduceLeDiff, Int.reduceToNat, Int.reduceLT, Int.reduceLE, Int.reduceEq, Int.reduceAdd, Int.reduceSub, Int.reduceMul, Int.toNat_natCast, reduceCtorEq, decide_true, decide_false, IntWalk.i64_in, IntWalk.u64_in, IntWalk.u8_in], by simp (disch := omega) only [go_sem, ↓IntWalk.iteOmega, IntWalk.toNatUp, Nat.reduceEqDiff, Nat.reduceAdd, Nat.reduceMul, Nat.reduceSub, Nat.reduceLT, Nat.reduceLeDiff, Int.reduceToNat, Int.reduceLT, Int.reduceLE, Int.reduceEq, Int.reduceAdd, Int.reduceSub, Int.reduceMul, Int.toNat_natCast, reduceCtorEq, decide_true, decide_false, IntWalk.i64_in, IntWalk.u64_in, IntWalk.u8_in], by simp (disch := omega) only [go_sem, ↓IntWalk.iteOmega, IntWalk.toNatUp, Nat.reduceEqDiff, Nat.reduceAdd, Nat.reduceMul, Nat.reduceSub, Nat.reduceLT, Nat.reduceLeDiff, Int.reduceToNat, Int.reduceLT, Int.reduceLE, Int.reduceEq, Int.reduceAdd, Int.reduceSub, Int.reduceMul, Int.toNat_natCast, reduceCtorEq, decide_true, decide_false, IntWalk.i64_in, IntWalk.u64_in, IntWalk.u8_in], ⟨by omega, HS.nil, HS.nil, fun i j h => by simp (disch := omega) only [upd_fst], fun i g n h => (by cases h), fun i g n h => (by cases h)⟩, by simp [upd_app], by simp [upd_app]⟩ ?_
  rintro m a o nx ⟨i, vN, vA, hi, rfl, hnx, h1, h2, h6, h7, h8, h9, hM, ho7, ho6⟩
  obtain ⟨hle, hHN, hHA, hkeep, hln, hla⟩ := hM
  have hokN := hHN.ok
  have hokA := hHA.ok
  by_cases hlt : i < n
  · simp (disch := omega) only [go_sem, ↓IntWalk.iteOmega, IntWalk.toNatUp, Nat.reduceEqDiff, Nat.reduceAdd, Nat.reduceMul, Nat.reduceSub, Nat.reduceLT, Nat.reduceLeDiff, Int.reduceToNat, Int.reduceLT, Int.reduceLE, Int.reduceEq, Int.reduceAdd, Int.reduceSub, Int.reduceMul, Int.toNat_natCast, reduceCtorEq, decide_true, decide_false, IntWalk.i64_in, IntWalk.u64_in, IntWalk.u8_in, h1, h2, h6, h7, h8, h9, ho7, ho6]
    refine WP_loop (fun m' a o' nx' => ∃ j : Nat, j ≤ 5 ∧ m' = 5 - j ∧ nx + 1 ≤ nx' ∧ a 1 = slI ns ∧ a 2 = .int .i64 acc ∧ a 6 = .ptr (nx0, 6) (nx0, 6) 0 ∧ a 7 = .ptr (nx0 + 1, 7) (nx0 + 1, 7) 0 ∧ a 8 = .int .i64 n ∧ a 9 = .int .i64 i ∧ a 10 = .ptr (nx + 1, 10) (nx + 1, 10) 0 ∧ a 11 = .int .i64 j ∧ o' (nx + 1, 10) = some (.row ⟨31, 1, (nx + 1, 10), false, true, cI (row7 n ns acc i j)⟩) ∧ (∀ i' j', i' < nx → o' (i', j') = o (i', j')) ∧ nx + 2 ≤ nx') 5 (by omega) ⟨0, by omega, by omega, by omega, by simp (disch := omega) only [go_sem, ↓IntWalk.iteOmega, IntWalk.toNatUp, Nat.reduceEqDiff, Nat.reduceAdd, Nat.reduceMul, Nat.reduceSub, Nat.reduceLT, Nat.reduceLeDiff, Int.reduceToNat, Int.reduceLT, Int.reduceLE, Int.reduceEq, Int.reduceAdd, Int.reduceSub, Int.reduceMul, Int.toNat_natCast, reduceCtorEq, decide_true, decide_false, IntWalk.i64_in, IntWalk.u64_in, IntWalk.u8_in, h1], by simp (disch := omega) only [go_sem, ↓IntWalk.iteOmega, IntWalk.toNatUp, Nat.reduceEqDiff, Nat.reduceAdd, Nat.reduceMul, Nat.reduceSub, Nat.reduceLT, Nat.reduceLeDiff, Int.reduceToNat, Int.reduceLT, Int.reduceLE, Int.reduceEq, Int.reduceAdd, Int.reduceSub, Int.reduceMul, Int.toNat_natCast, reduceCtorEq, decide_true, decide_false, IntWalk.i64_in, IntWalk.u64_in, IntWalk.u8_in, h2], by simp (disch := omega) only [go_sem, ↓IntWalk.iteOmega, IntWalk.toNatUp, Nat.reduceEqDiff, Nat.reduceAdd, Nat.reduceMul, Nat.reduceSub, Nat.reduceLT, Nat.reduceLeDiff, Int.reduceToNat, Int.reduceLT, Int.reduceLE, Int.reduceEq, Int.reduceAdd, Int.reduceSub, Int.reduceMul, Int.toNat_natCast, reduceCtorEq, decide_true, decide_false, IntWalk.i64_in, IntWalk.u64_in, IntWalk.u8_in, h6], by simp (disch := omega) only [go_sem, ↓IntWalk.iteOmega, IntWalk.toNatUp, Nat.reduceEqDiff, Nat.reduceAdd, Nat.reduceMul, Nat.reduceSub, Nat.reduceLT, Nat.reduceLeDiff, Int.reduceToNat, Int.reduceLT, Int.reduceLE, Int.reduceEq, Int.reduceAdd, Int.reduceSub, Int.reduceMul, Int.toNat_natCast, reduceCtorEq, decide_true, decide_false, IntWalk.i64_in, IntWalk.u64_in, IntWalk.u8_in, h7], by simp (disch := omega) only [go_sem, ↓IntWalk.iteOmega, IntWalk.toNatUp, Nat.reduceEqDiff, Nat.reduceAdd, Nat.reduceMul, Nat.reduceSub, Nat.reduceLT, Nat.reduceLeDiff, Int.reduceToNat, Int.reduceLT, Int.reduceLE, Int.reduceEq, Int.reduceAdd, Int.reduceSub, Int.reduceMul, Int.toNat_natCast, reduceCtorEq, decide_true, decide_false, IntWalk.i64_in, IntWalk.u64_in, IntWalk.u8_in, h8], by simp (disch := omega) only [go_sem, ↓IntWalk.iteOmega, IntWalk.toNatUp, Nat.reduceEqDiff, Nat.reduceAdd, Nat.reduceMul, Nat.reduceSub, Nat.reduceLT, Nat.reduceLeDiff, Int.reduceToNat, Int.reduceLT, Int.reduceLE, Int.reduceEq, Int.reduceAdd, Int.reduceSub, Int.reduceMul, Int.toNat_natCast, reduceCtorEq, decide_true, decide_false, IntWalk.i64_in, IntWalk.u64_in, IntWalk.u8_in, h9], by simp (disch := omega) only [go_sem, ↓IntWalk.iteOmega, IntWalk.toNatUp, Nat.reduceEqDiff, Nat.reduceAdd, Nat.reduceMul, Nat.reduceSub, Nat.reduceLT, Nat.reduceLeDiff, Int.reduceToNat, Int.reduceLT, Int.reduceLE, Int.reduceEq, Int.reduceAdd, Int.reduceSub, Int.reduceMul, Int.toNat_natCast, reduceCtorEq, decide_true, decide_false, IntWalk.i64_in, IntWalk.u64_in, IntWalk.u8_in], by simp (disch := omega) only [go_sem, ↓IntWalk.iteOmega, IntWalk.toNatUp, Nat.reduceEqDiff, Nat.reduceAdd, Nat.reduceMul, Nat.reduceSub, Nat.reduceLT, Nat.reduceLeDiff, Int.reduceToNat, Int.reduceLT, Int.reduceLE, Int.reduceEq, Int.reduceAdd, Int.reduceSub, Int.reduceMul, Int.toNat_natCast, reduceCtorEq, decide_true, decide_false, IntWalk.i64_in, IntWalk.u64_in, IntWalk.u8_in], by rw [row7_zero]; exact upd_same _ _ _, fun i' j' h => by simp (disch := omega) only [upd_fst], by omega⟩ ?_
    clear h1 h2 h6 h7 h8 h9
    rintro m' a o' nx' ⟨j, hj, rfl, hnx', h1, h2, h6, h7, h8, h9, h10, h11, ho10, hkp, hnx2⟩
    have ho7' := (hkp (nx0 + 1) 7 (by omega)).trans ho7
    have ho6' := (hkp nx0 6 (by omega)).trans ho6
    by_cases hj5 : j < 5
    · have hset := row7_set n ns acc i hj5
      have hlen := row7_len n ns acc i j
      have hsp : ∀ x, splice (cI (row7 n ns acc i j)) j [.int .i64 x] = cI ((row7 n ns acc i j).set j x) := fun x => cI_set _ _ _ (by omega)
      obtain ⟨row, hrow⟩ : ∃ row, row = row7 n ns acc i j := ⟨_, rfl⟩
      rw [← hrow] at ho10 hset hlen hsp
      by_cases hk : i * 5 + j < ns.length
      · have hg := cI_get (s := 1) hk
        have he : ent7 n ns acc (i * 5 + j) = ns.getD (i * 5 + j) 0 % n := if_pos hk
        have hk' : (5 * (i : Int) + j) < ns.length := by omega
        have hkn : (5 * (i : Int) + (j : Int)).toNat = i * 5 + j := by omega
        rw [he] at hset
        have hXx := hX (ns.getD (i * 5 + j) 0) n (by omega) (by omega)
        simp (disch := omega) only [go_sem, ↓IntWalk.iteOmega, IntWalk.toNatUp, Nat.reduceEqDiff, Nat.reduceAdd, Nat.reduceMul, Nat.reduceSub, Nat.reduceLT, Nat.reduceLeDiff, Int.reduceToNat, Int.reduceLT, Int.reduceLE, Int.reduceEq, Int.reduceAdd, Int.reduceSub, Int.reduceMul, Int.toNat_natCast, reduceCtorEq, decide_true, decide_false, IntWalk.i64_in, IntWalk.u64_in, IntWalk.u8_in, h1, h2, h6, h7, h8, h9, h10, h11, ho10, hk', hkn, hg, hXx, hlen, hsp, hset]
        refine ⟨_, by omega, j + 1, by omega, rfl, by omega, rfl, rfl, fun i' j' h => ?_, by omega⟩
        have e : i' ≠ nx + 1 := by omega
        simp [e, hkp i' j' h]
      · have he : ent7 n ns acc (i * 5 + j) = IntKind.i64.wrap ((i : Int) + IntKind.i64.wrap ((j : Int) * acc)) % n := by
          rw [ent7, if_neg hk, show (i * 5 + j) / 5 = i by omega, show (i * 5 + j) % 5 = j by omega]
        have hk' : ¬ (5 * (i : Int) + j) < ns.length := by omega
        rw [he] at hset
        have hXx := hX (IntKind.i64.wrap ((i : Int) + IntKind.i64.wrap ((j : Int) * acc))) n (by omega) (by omega)
        simp (disch := omega) only [go_sem, ↓IntWalk.iteOmega, IntWalk.toNatUp, Nat.reduceEqDiff, Nat.reduceAdd, Nat.reduceMul, Nat.reduceSub, Nat.reduceLT, Nat.reduceLeDiff, Int.reduceToNat, Int.reduceLT, Int.reduceLE, Int.reduceEq, Int.reduceAdd, Int.reduceSub, Int.reduceMul, Int.toNat_natCast, reduceCtorEq, decide_true, decide_false, IntWalk.i64_in, IntWalk.u64_in, IntWalk.u8_in, h1, h2, h6, h7, h8, h9, h10, h11, ho10, hk', hXx, hlen, hsp, hset]
        refine ⟨_, by omega, j + 1, by omega, rfl, by omega, rfl, rfl, fun i' j' h => ?_, by omega⟩
        have e : i' ≠ nx + 1 := by omega
        simp [e, hkp i' j' h]
    · have hj' : j = 5 := by omega
      subst hj'
      have hns := next7_succ n ns acc i
      have hac := accs7_succ acc i
      have hl5 := row7_len n ns acc i 5
      have hrow5 : (cI (row7 n ns acc i 5)).length = 5 := by rw [cI_length, hl5]
      have hXx := hX (acc.fdiv (2 ^ min i 64)) 2 (by omega) (by omega)
      have htk5 : (cI (row7 n ns acc i 5)).take 5 = cI (row7 n ns acc i 5) := take_len hrow5
      have htN : (cI (next7 n ns acc i)).take (i * 5) = cI (next7 n ns acc i) := take_len (by rw [cI_length, next7_len])
      have htA : (cB (accs7 acc i)).take i = cB (accs7 acc i) := take_len (by rw [cB_length, accs7_len])
      have hlN := next7_len n ns acc i
      have hlA := accs7_len acc i
      have hNs : cI (next7 n ns acc (i + 1)) = cI (next7 n ns acc i) ++ cI (row7 n ns acc i 5) := by rw [hns, cI_app]
      have hAs : cB (accs7 acc (i + 1)) = cB (accs7 acc i) ++ [.bool (decide (acc.fdiv (2 ^ min i 64) % 2 = 1))] := by rw [hac, cB_app]; rfl
      have hNl : (cI (next7 n ns acc (i + 1))).length = (i + 1) * 5 := by rw [cI_length, next7_len]
      have hAl : (cB (accs7 acc (i + 1))).length = (i + 1) * 1 := by rw [cB_length, accs7_len]; omega
      rcases hHN with ⟨rfl, e2, e3⟩ | ⟨i1, g1, rfl, hi1, hrowN, hlenN⟩
      · rcases hHA with ⟨rfl, f2, f3⟩ | ⟨i2, g2, rfl, hi2, hrowA, hlenA⟩
        · simp (disch := omega) only [go_sem, ↓IntWalk.iteOmega, IntWalk.toNatUp, Nat.reduceEqDiff, Nat.reduceAdd, Nat.reduceMul, Nat.reduceSub, Nat.reduceLT, Nat.reduceLeDiff, Int.reduceToNat, Int.reduceLT, Int.reduceLE, Int.reduceEq, Int.reduceAdd, Int.reduceSub, Int.reduceMul, Int.toNat_natCast, reduceCtorEq, decide_true, decide_false, IntWalk.i64_in, IntWalk.u64_in, IntWalk.u8_in, h1, h2, h6, h7, h8, h9, h10, h11, ho10, ho7', ho6', hrow5, htk5, hXx, hlN, hlA, nz7]
          have e0 : i = 0 := e2
          refine ⟨_, by omega, i + 1, _, _, by omega, rfl, by omega, rfl, ⟨by omega, HS.of1 (by omega) (by omega) (by rw [hNs, e3]; simp [upd_app]) hNl, HS.of1 (by omega) (by omega) (by rw [hAs, f3]; simp [upd_app]) hAl, fun i' j' h => ?_, fun i' g k h => ?_, fun i' g k h => ?_⟩, rfl⟩
          · simp (disch := omega) only [upd_fst]
            rw [hkp i' j' (by omega), hkeep i' j' h]
          · injection h with h1 h2; injection h1 with h1 h2; omega
          · injection h with h1 h2; injection h1 with h1 h2; omega
        · have hrowA' := (hkp i2 65 (by omega)).trans hrowA
          simp (disch := omega) only [go_sem, ↓IntWalk.iteOmega, IntWalk.toNatUp, Nat.reduceEqDiff, Nat.reduceAdd, Nat.reduceMul, Nat.reduceSub, Nat.reduceLT, Nat.reduceLeDiff, Int.reduceToNat, Int.reduceLT, Int.reduceLE, Int.reduceEq, Int.reduceAdd, Int.reduceSub, Int.reduceMul, Int.toNat_natCast, reduceCtorEq, decide_true, decide_false, IntWalk.i64_in, IntWalk.u64_in, IntWalk.u8_in, h1, h2, h6, h7, h8, h9, h10, h11, ho10, ho7', ho6', hrow5, htk5, hXx, hlN, hlA, nz7, hrowA', htA]
          have hp2 := hla _ _ _ rfl
          have e0 : i = 0 := e2
          refine ⟨_, by omega, i + 1, _, _, by omega, rfl, by omega, rfl, ⟨by omega, HS.of1 (by omega) (by omega) (by rw [hNs, e3]; simp [upd_app]) hNl, HS.of (by omega) (by rw [hAs]; simp [upd_app]) hAl, fun i' j' h => ?_, fun i' g k h => ?_, fun i' g k h => ?_⟩, rfl⟩
          · simp (disch := omega) only [upd_fst]
            rw [hkp i' j' (by omega), hkeep i' j' h]
          · injection h with h1 h2; injection h1 with h1 h2; omega
          · injection h with h1 h2; injection h1 with h1 h2; omega
      · rcases hHA with ⟨rfl, f2, f3⟩ | ⟨i2, g2, rfl, hi2, hrowA, hlenA⟩
        · have hrowN' := (hkp i1 54 (by omega)).trans hrowN
          simp (disch := omega) only [go_sem, ↓IntWalk.iteOmega, IntWalk.toNatUp, Nat.reduceEqDiff, Nat.reduceAdd, Nat.reduceMul, Nat.reduceSub, Nat.reduceLT, Nat.reduceLeDiff, Int.reduceToNat, Int.reduceLT, Int.reduceLE, Int.reduceEq, Int.reduceAdd, Int.reduceSub, Int.reduceMul, Int.toNat_natCast, reduceCtorEq, decide_true, decide_false, IntWalk.i64_in, IntWalk.u64_in, IntWalk.u8_in, h1, h2, h6, h7, h8, h9, h10, h11, ho10, ho7', ho6', hrow5, htk5, hXx, hlN, hlA, nz7, hrowN', htN]
          have hp1 := hln _ _ _ rfl
          have e0 : i = 0 := f2
          refine ⟨_, by omega, i + 1, _, _, by omega, rfl, by omega, rfl, ⟨by omega, HS.of (by omega) (by rw [hNs]; simp [upd_app]) hNl, HS.of1 (by omega) (by omega) (by rw [hAs, f3]; simp [upd_app]) hAl, fun i' j' h => ?_, fun i' g k h => ?_, fun i' g k h => ?_⟩, rfl⟩
          · simp (disch := omega) only [upd_fst]
            rw [hkp i' j' (by omega), hkeep i' j' h]
          · injection h with h1 h2; injection h1 with h1 h2; omega
          · injection h with h1 h2; injection h1 with h1 h2; omega
        · have hrowA' := (hkp i2 65 (by omega)).trans hrowA
          have hrowN' := (hkp i1 54 (by omega)).trans hrowN
          simp (disch := omega) only [go_sem, ↓IntWalk.iteOmega, IntWalk.toNatUp, Nat.reduceEqDiff, Nat.reduceAdd, Nat.reduceMul, Nat.reduceSub, Nat.reduceLT, Nat.reduceLeDiff, Int.reduceToNat, Int.reduceLT, Int.reduceLE, Int.reduceEq, Int.reduceAdd, Int.reduceSub, Int.reduceMul, Int.toNat_natCast, reduceCtorEq, decide_true, decide_false, IntWalk.i64_in, IntWalk.u64_in, IntWalk.u8_in, h1, h2, h6, h7, h8, h9, h10, h11, ho10, ho7', ho6', hrow5, htk5, hXx, hlN, hlA, nz7, hrowN', hrowA', htN, htA]
          have hp1 := hln _ _ _ rfl
          have hp2 := hla _ _ _ rfl
          refine ⟨_, by omega, i + 1, _, _, by omega, rfl, by omega, rfl, ⟨by omega, HS.of (by omega) (by rw [hNs]; simp [upd_app]) hNl, HS.of (by omega) (by rw [hAs]; simp [upd_app]) hAl, fun i' j' h => ?_, fun i' g k h => ?_, fun i' g k h => ?_⟩, rfl⟩
          · simp (disch := omega) only [upd_fst]
            rw [hkp i' j' (by omega), hkeep i' j' h]
          · injection h with h1 h2; injection h1 with h1 h2; omega
          · injection h with h1 h2; injection h1 with h1 h2; omega
  · have hie : i = n := by omega
    subst hie
    simp (disch := omega) only [go_sem, ↓IntWalk.iteOmega, IntWalk.toNatUp, Nat.reduceEqDiff, Nat.reduceAdd, Nat.reduceMul, Nat.reduceSub, Nat.reduceLT, Nat.reduceLeDiff, Int.reduceToNat, Int.reduceLT, Int.reduceLE, Int.reduceEq, Int.reduceAdd, Int.reduceSub, Int.reduceMul, Int.toNat_natCast, reduceCtorEq, decide_true, decide_false, IntWalk.i64_in, IntWalk.u64_in, IntWalk.u8_in, h1, h2, h6, h7, h8, h9, ho7, ho6, hokN, hokA]
    refine ⟨_, _, ⟨by omega, hHN.keep (fun i hi => by simp [upd_app]) (by omega), hHA.keep (fun i hi => by simp [upd_app]) (by omega), fun i' j' h => ?_, hln, hla⟩, rfl⟩
    simp (disch := omega) only [upd_fst]
    exact hkeep i' j' h
end Go.Proofs.YthhfjjnhkifbfaaDoor.A
/- law7's 'known' answers true: one run by the kernel. -/
namespace Go.Proofs.YthhfjjnhkifbfaaDoor.A
open Go
def mode7 (f : FuncId) : Mode := if f ∈ [21, 33, 45, 46, 44, 57, 60] then .pure false else if f ∈ [12, 18, 16, 29, 35] then .pure true else .raw false
noncomputable def E7 : Env := { P := Tryd.prog, mode := mode7, ext := fun _ _ => none }
theorem known7_run : (calls E7 60).1 9 [] = some (.bool true) := by kernel_rfl
theorem known7_ok : Ok Tryd.prog 9 [] (.bool true) := ok_calls (E := E7) (tab_nil _) mixed known7_run
end Go.Proofs.YthhfjjnhkifbfaaDoor.A
/- The table of contracts for the laws of machines of one way. -/
namespace Go.Proofs.YthhfjjnhkifbfaaDoor.A
open Go
set_option maxRecDepth 20000
abbrev N7 (size : Int) (ns : List Int) (acc : Int) : List Int := next7 (size7 size) ns acc (size7 size)
abbrev A7 (size : Int) (acc : Int) : List Bool := accs7 acc (size7 size)
abbrev made7V (size : Int) (ns : List Int) (acc : Int) : AV := dfaV (size7 size) (N7 size ns acc) (A7 size acc)
theorem make7_ok (size : Int) (ns : List Int) (acc : Int) : Ok Tryd.prog 11 [.int .i64 size, slI ns, .int .i64 acc] (made7V size ns acc) := by
  refine ok_of_WP (E := EX md0 XW7) (cr := noR) XW7_ok (noR_ok _) mixed (k := 20) Tryd.func11 (look7M _) rfl (WP_mono (make7_wp _ size ns acc _ _) ?_)
  rintro u a o nx ⟨rfl, vN, vA, hM, h6, ho6⟩
  have v1 := hM.n.view 1010
  have v2 := hM.a.view 1010
  rw [view_cI] at v1
  rw [view_cB] at v2
  have hl := accs7_len acc (size7 size)
  refine ⟨.inr rfl, ?_⟩
  simp only [Tryd.f11]
  simp (disch := omega) only [go_sem, ↓IntWalk.iteOmega, IntWalk.toNatUp, Nat.reduceEqDiff, Nat.reduceAdd, Nat.reduceMul, Nat.reduceSub, Nat.reduceLT, Nat.reduceLeDiff, Int.reduceToNat, Int.reduceLT, Int.reduceLE, Int.reduceEq, Int.reduceAdd, Int.reduceSub, Int.reduceMul, Int.toNat_natCast, reduceCtorEq, decide_true, decide_false, IntWalk.i64_in, IntWalk.u64_in, IntWalk.u8_in, h6, ho6, v1, v2]
  rw [made7V, dfaV, slB, accs7_len]
theorem goD_good {n N A} (h : WfD n N A) : ∀ (w : List Int) (s : Int), (∀ x ∈ w, 0 ≤ x ∧ x < 5) → 0 ≤ s → s < (n : Int) → 0 ≤ goD N s w ∧ goD N s w < (n : Int)
  | [], s, _, h1, h2 => by rw [goD]; omega
  | m :: w, s, hx, h1, h2 => by
    have hm := hx m (by simp)
    rw [goD, if_neg (by omega)]
    have := h.get (k := s.toNat * 5 + m.toNat) (by omega)
    exact goD_good h w _ (fun x hx' => hx x (List.mem_cons_of_mem _ hx')) this.1 this.2
theorem wordOf_in (ns : List Int) (most : Int) : ∀ x ∈ wordOf ns most 4, 0 ≤ x ∧ x < 5 := by
  intro x hx
  obtain ⟨y, _, rfl⟩ := List.mem_map.1 hx
  have h1 := Int.emod_nonneg y (show (1 + 4 % 5 : Int) ≠ 0 by decide)
  have h2 := Int.emod_lt_of_pos y (show (0 : Int) < 1 + 4 % 5 by decide)
  exact ⟨h1, by omega⟩
def RKn7 (args : List AV) (r : AV) : Prop := args = [] ∧ r = .bool true
theorem RKn7_fn : Fun1 RKn7 := by rintro args r r' ⟨_, rfl⟩ ⟨_, rfl⟩; rfl
theorem RKn7_ok (args r) (h : RKn7 args r) : Ok Tryd.prog 9 args r := by obtain ⟨rfl, rfl⟩ := h; exact known7_ok
def RMk7 (args : List AV) (r : AV) : Prop := ∃ (size : Int) (ns : List Int) (acc : Int), args = [.int .i64 size, slI ns, .int .i64 acc] ∧ r = made7V size ns acc
theorem RMk7_fn : Fun1 RMk7 := by
  rintro args r r' ⟨a, b, c, rfl, rfl⟩ ⟨a', b', c', h, rfl⟩
  simp only [List.cons.injEq, AV.int.injEq, AV.sl.injEq, true_and, and_true] at h
  obtain ⟨h1, ⟨_, h2⟩, h3⟩ := h
  rw [h1, cI_inj h2, h3]
theorem RMk7_ok (args r) (h : RMk7 args r) : Ok Tryd.prog 11 args r := by obtain ⟨a, b, c, rfl, rfl⟩ := h; exact make7_ok a b c
def RRunD (args : List AV) (r : AV) : Prop := ∃ (n : Nat) (N : List Int) (A : List Bool) (w : List Int), WfD n N A ∧ w.length ≤ 1000000 ∧ args = [dfaV n N A, slI w] ∧ r = .bool (runD n N A w)
theorem RRunD_fn : Fun1 RRunD := by
  rintro args r r' ⟨n, N, A, w, _, _, rfl, rfl⟩ ⟨n', N', A', w', _, _, h, rfl⟩
  simp only [List.cons.injEq, and_true] at h
  obtain ⟨h1, h2, h3⟩ := dfaV_inj h.1
  rw [h1, h2, h3, slI_inj h.2]
theorem RRunD_dfa (args r) (h : RRunD args r) : Ok Tryd.prog 18 args r := by obtain ⟨n, N, A, w, h1, h2, rfl, rfl⟩ := h; exact drun0_ok h1 w h2
theorem RRunD_ref (args r) (h : RRunD args r) : Ok Tryd.prog 19 args r := by obtain ⟨n, N, A, w, h1, h2, rfl, rfl⟩ := h; exact drun1_ok h1 w h2
noncomputable def XL7 : FuncId → List AV → Option AV := tabLook [(9, tRel RKn7), (11, tRel RMk7), (15, tRel RWord), (16, tRel RGoD), (17, tRel RGoD), (18, tRel RRunD), (19, tRel RRunD), (14, tRel RW)]
theorem XL7_ok : CPSound Tryd.prog XL7 := tab_cons (tab_cons (tab_cons (tab_cons (tab_cons (tab_cons (tab_cons (tab_cons (tab_nil _) (tRel_ok within3_ok)) (tRel_ok RRunD_ref)) (tRel_ok RRunD_dfa)) (tRel_ok RGoD_ref)) (tRel_ok RGoD_dfa)) (tRel_ok RWord_ok)) (tRel_ok RMk7_ok)) (tRel_ok RKn7_ok)
theorem XL7_known : XL7 9 [] = some (.bool true) := tRel_eq (R := RKn7) RKn7_fn ⟨rfl, rfl⟩
theorem XL7_make (size : Int) (ns : List Int) (acc : Int) : XL7 11 [.int .i64 size, slI ns, .int .i64 acc] = some (made7V size ns acc) := tRel_eq (R := RMk7) RMk7_fn ⟨_, _, _, rfl, rfl⟩
theorem XL7_word (ns : List Int) (most few : Int) (h : 0 ≤ most ∧ most ≤ 1000) : XL7 15 [slI ns, .int .i64 most, .int .i64 few] = some (slI (wordOf ns most few)) := tRel_eq (R := RWord) RWord_fn ⟨_, _, _, h, rfl, rfl⟩
theorem XL7_go {n N A} (hw : WfD n N A) (s : Int) (w : List Int) (hl : w.length ≤ 1000000) : XL7 16 [dfaV n N A, .int .i64 s, slI w] = some (.int .i64 (goFull n N s w)) := tRel_eq (R := RGoD) RGoD_fn ⟨_, _, _, _, _, hw, hl, rfl, rfl⟩
theorem XL7_rgo {n N A} (hw : WfD n N A) (s : Int) (w : List Int) (hl : w.length ≤ 1000000) : XL7 17 [dfaV n N A, .int .i64 s, slI w] = some (.int .i64 (goFull n N s w)) := tRel_eq (R := RGoD) RGoD_fn ⟨_, _, _, _, _, hw, hl, rfl, rfl⟩
theorem XL7_run {n N A} (hw : WfD n N A) (w : List Int) (hl : w.length ≤ 1000000) : XL7 18 [dfaV n N A, slI w] = some (.bool (runD n N A w)) := tRel_eq (R := RRunD) RRunD_fn ⟨_, _, _, _, hw, hl, rfl, rfl⟩
theorem XL7_rrun {n N A} (hw : WfD n N A) (w : List Int) (hl : w.length ≤ 1000000) : XL7 19 [dfaV n N A, slI w] = some (.bool (runD n N A w)) := tRel_eq (R := RRunD) RRunD_fn ⟨_, _, _, _, hw, hl, rfl, rfl⟩
theorem XL7_within (a n : Int) (h1 : 0 < n) (h2 : n ≤ 1000000) : XL7 14 [.int .i64 a, .int .i64 n] = some (.int .i64 (a % n)) := rw_eq h1 h2
end Go.Proofs.YthhfjjnhkifbfaaDoor.A
/- law7.Make on the caller's memory: what it makes may be written to. -/
namespace Go.Proofs.YthhfjjnhkifbfaaDoor.A
open Go
set_option maxRecDepth 20000
@[go_sem] theorem freezeR_false (v H) : freezeR false v H = (v, H) := rfl
def md7 (f : FuncId) : Mode := if f = 11 then .raw false else md0 f
theorem md7_make : md7 11 = .raw false := rfl
theorem md7_law7_known : md7 9 = md0 9 := rfl
theorem md7_law7_within : md7 14 = md0 14 := rfl
theorem md7_law5_Word : md7 15 = md0 15 := rfl
theorem md7_law7_Few : md7 10 = md0 10 := rfl
theorem md7_dfa_Run : md7 18 = md0 18 := rfl
theorem md7_dfa_Check : md7 12 = md0 12 := rfl
theorem md7_ref7_Check : md7 13 = md0 13 := rfl
noncomputable def crM7 : CallR := tabLookR [(11, fun args H => if args.length = 3 then runP (EX md0 XW7) noR 20 nz7 Tryd.f11 args H else none)]
theorem crM7_ok : CRSound Tryd.prog crM7 ∧ Up crM7 := by
  refine tabR_cons (tabR_nil _) fun args H v H' h => ?_
  split at h
  · rename_i hn
    exact okR_run (E := EX md0 XW7) XW7_ok (noR_ok Tryd.prog).1 (noR_ok Tryd.prog).2 mixed Tryd.func11 (by rw [hn]; exact look7M XW7) h
  · cases h
theorem make7_call {o : Ob} {nx : Nat} {K : AV × AH → Prop} (size : Int) (ns : List Int) (acc : Int)
    (h : ∀ vN vA o' nx', Made7 o nx (size7 size) ns acc (size7 size) vN vA o' nx' → K (.agg [vN, vA], ⟨o', nx'⟩)) :
    wO (Option.map (fun p => freezeR false p.1 p.2) (crM7 11 [.int .i64 size, slI ns, .int .i64 acc] ⟨o, nx⟩)) K := by
  have hw := make7_wp noR size ns acc o nx
  have hb : Tryd.f11.body = some (Tryd.f11.body.getD .skip) := rfl
  unfold WP at hw
  have e : crM7 11 [.int .i64 size, slI ns, .int .i64 acc] ⟨o, nx⟩ = runP (EX md0 XW7) noR 20 nz7 Tryd.f11 [.int .i64 size, slI ns, .int .i64 acc] ⟨o, nx⟩ := rfl
  rw [e]
  unfold runP
  rw [hb]
  dsimp only
  cases he : evalP (EX md0 XW7) (fun _ _ => none) noR 20 nz7 none (Tryd.f11.body.getD .skip) (begin_ [.int .i64 size, slI ns, .int .i64 acc]) ⟨o, nx⟩ with
  | none => rw [he] at hw; exact hw.elim
  | some p =>
    obtain ⟨u, a, H⟩ := p
    rw [he] at hw
    obtain ⟨rfl, vN, vA, hM, h6, ho6⟩ := hw
    have hr : resultsL (EX md0 XW7).P a H Tryd.f11.results.toList = some [.agg [vN, vA]] := by
      obtain ⟨Ho, Hn⟩ := H
      dsimp only at ho6
      simp only [Tryd.f11]
      simp (disch := omega) only [go_sem, ↓IntWalk.iteOmega, IntWalk.toNatUp, Nat.reduceEqDiff, Nat.reduceAdd, Nat.reduceMul, Nat.reduceSub, Nat.reduceLT, Nat.reduceLeDiff, Int.reduceToNat, Int.reduceLT, Int.reduceLE, Int.reduceEq, Int.reduceAdd, Int.reduceSub, Int.reduceMul, Int.toNat_natCast, reduceCtorEq, decide_true, decide_false, IntWalk.i64_in, IntWalk.u64_in, IntWalk.u8_in, h6, ho6]
    dsimp only
    rw [hr]
    exact h vN vA H.o H.nx hM
/-! ### whether a machine may be -/
def RChkD (args : List AV) (r : AV) : Prop := ∃ (n : Nat) (N : List Int) (A : List Bool), N.length = 5 * n ∧ args = [dfaV n N A] ∧ r = .bool (chkD n N A)
theorem RChkD_fn : Fun1 RChkD := by
  rintro args r r' ⟨n, N, A, _, rfl, rfl⟩ ⟨n', N', A', _, h, rfl⟩
  simp only [List.cons.injEq, and_true] at h
  obtain ⟨h1, h2, h3⟩ := dfaV_inj h
  rw [h1, h2, h3]
theorem RChkD_dfa (args r) (h : RChkD args r) : Ok Tryd.prog 12 args r := by obtain ⟨n, N, A, h, rfl, rfl⟩ := h; exact dchk_ok n N A h
theorem RChkD_ref (args r) (h : RChkD args r) : Ok Tryd.prog 13 args r := by obtain ⟨n, N, A, h, rfl, rfl⟩ := h; exact rchk_ok n N A h
def RFew7 (args : List AV) (r : AV) : Prop := ∃ (n : Nat) (N : List Int) (A : List Bool), args = [dfaV n N A] ∧ r = .bool (decide (n ≤ 60 ∧ A.length ≤ 60))
theorem RFew7_fn : Fun1 RFew7 := by
  rintro args r r' ⟨n, N, A, rfl, rfl⟩ ⟨n', N', A', h, rfl⟩
  simp only [List.cons.injEq, and_true] at h
  obtain ⟨h1, h2, h3⟩ := dfaV_inj h
  rw [h1, h3]
theorem lookFew7 (X) : lookedAt (EX md0 X) (fun _ => none) 1 Tryd.f10 = true := by kernel_rfl
theorem RFew7_ok (args r) (h : RFew7 args r) : Ok Tryd.prog 10 args r := by
  obtain ⟨n, N, A, rfl, rfl⟩ := h
  refine ok_of_WP (E := EX md0 (fun _ _ => none)) (cr := noR) (tab_nil _) (noR_ok _) mixed (k := 2) Tryd.func10 (lookFew7 _) rfl ?_
  simp only [Tryd.f10, Option.getD_some]
  by_cases h1 : (n : Int) ≤ 60
  · by_cases h2 : (A.length : Int) ≤ 60
    · rw [decide_eq_true (by omega)]
      simp (disch := omega) only [go_sem, ↓IntWalk.iteOmega, IntWalk.toNatUp, Nat.reduceEqDiff, Nat.reduceAdd, Nat.reduceMul, Nat.reduceSub, Nat.reduceLT, Nat.reduceLeDiff, Int.reduceToNat, Int.reduceLT, Int.reduceLE, Int.reduceEq, Int.reduceAdd, Int.reduceSub, Int.reduceMul, Int.toNat_natCast, reduceCtorEq, decide_true, decide_false, IntWalk.i64_in, IntWalk.u64_in, IntWalk.u8_in, h1, h2]
    · rw [decide_eq_false (by omega)]
      simp (disch := omega) only [go_sem, ↓IntWalk.iteOmega, IntWalk.toNatUp, Nat.reduceEqDiff, Nat.reduceAdd, Nat.reduceMul, Nat.reduceSub, Nat.reduceLT, Nat.reduceLeDiff, Int.reduceToNat, Int.reduceLT, Int.reduceLE, Int.reduceEq, Int.reduceAdd, Int.reduceSub, Int.reduceMul, Int.toNat_natCast, reduceCtorEq, decide_true, decide_false, IntWalk.i64_in, IntWalk.u64_in, IntWalk.u8_in, h1, h2]
  · rw [decide_eq_false (by omega)]
    simp (disch := omega) only [go_sem, ↓IntWalk.iteOmega, IntWalk.toNatUp, Nat.reduceEqDiff, Nat.reduceAdd, Nat.reduceMul, Nat.reduceSub, Nat.reduceLT, Nat.reduceLeDiff, Int.reduceToNat, Int.reduceLT, Int.reduceLE, Int.reduceEq, Int.reduceAdd, Int.reduceSub, Int.reduceMul, Int.toNat_natCast, reduceCtorEq, decide_true, decide_false, IntWalk.i64_in, IntWalk.u64_in, IntWalk.u8_in, h1]
noncomputable def XCk7 : FuncId → List AV → Option AV := tabLook [(9, tRel RKn7), (14, tRel RW), (10, tRel RFew7), (12, tRel RChkD), (13, tRel RChkD), (15, tRel RWord), (18, tRel RRunD)]
theorem XCk7_ok : CPSound Tryd.prog XCk7 := tab_cons (tab_cons (tab_cons (tab_cons (tab_cons (tab_cons (tab_cons (tab_nil _) (tRel_ok RRunD_dfa)) (tRel_ok RWord_ok)) (tRel_ok RChkD_ref)) (tRel_ok RChkD_dfa)) (tRel_ok RFew7_ok)) (tRel_ok within3_ok)) (tRel_ok RKn7_ok)
theorem XCk7_known : XCk7 9 [] = some (.bool true) := tRel_eq (R := RKn7) RKn7_fn ⟨rfl, rfl⟩
theorem XCk7_within (a n : Int) (h1 : 0 < n) (h2 : n ≤ 1000000) : XCk7 14 [.int .i64 a, .int .i64 n] = some (.int .i64 (a % n)) := rw_eq h1 h2
theorem XCk7_few (n N A) : XCk7 10 [dfaV n N A] = some (.bool (decide (n ≤ 60 ∧ A.length ≤ 60))) := tRel_eq (R := RFew7) RFew7_fn ⟨_, _, _, rfl, rfl⟩
theorem XCk7_dc (n N A) (h : N.length = 5 * n) : XCk7 12 [dfaV n N A] = some (.bool (chkD n N A)) := tRel_eq (R := RChkD) RChkD_fn ⟨_, _, _, h, rfl, rfl⟩
theorem XCk7_rc (n N A) (h : N.length = 5 * n) : XCk7 13 [dfaV n N A] = some (.bool (chkD n N A)) := tRel_eq (R := RChkD) RChkD_fn ⟨_, _, _, h, rfl, rfl⟩
theorem XCk7_word (ns : List Int) (most few : Int) (h : 0 ≤ most ∧ most ≤ 1000) : XCk7 15 [slI ns, .int .i64 most, .int .i64 few] = some (slI (wordOf ns most few)) := tRel_eq (R := RWord) RWord_fn ⟨_, _, _, h, rfl, rfl⟩
theorem XCk7_run {n N A} (hw : WfD n N A) (w : List Int) (hl : w.length ≤ 1000000) : XCk7 18 [dfaV n N A, slI w] = some (.bool (runD n N A w)) := tRel_eq (R := RRunD) RRunD_fn ⟨_, _, _, _, hw, hl, rfl, rfl⟩
theorem chk_wf {n N A} (h : WfD n N A) : chkD n N A = true := by
  unfold chkD
  rw [decide_eq_true ⟨h.sz.1, h.sz.2, h.a⟩, Bool.true_and, List.all_eq_true]
  exact fun x hx => decide_eq_true (h.e x hx)
end Go.Proofs.YthhfjjnhkifbfaaDoor.A
/- Machines of one way out of machines of many: Subsets. -/
namespace Go.Proofs.YthhfjjnhkifbfaaDoor.A
open Go
set_option maxRecDepth 20000
@[go_sem] theorem view_mp' (o d k) : view o d (.mp k) = .und := by cases d <;> rfl
@[go_sem] theorem tags_mp' (o d k) : viewTags o d (.mp k) = [] := by cases d <;> rfl
noncomputable def fS (N : Nat) (ss : List St3) (fs : List (Int × Int)) (b : List Bool) (m : Nat) : List Bool := stepB N (rowsOf N fs) ss b (m : Int)
noncomputable def t0S (N : Nat) (S : Int) (fs : List (Int × Int)) : List Bool := closeB N (rowsOf N fs) [S]
noncomputable def subM (N : Nat) (S : Int) (ss : List St3) (fs : List (Int × Int)) (cap : Nat) : Option (List (List Bool) × List Nat) := bfsS (fS N ss fs) cap 1002 0 [t0S N S fs] []
def natI (l : List Nat) : List Int := l.map Int.ofNat
def accS (F : Int) (L : List (List Bool)) : List Bool := L.map fun b => b.getD F.toNat false
theorem beq_same : (instBEqOfDecidableEq : BEq (List Bool)) = List.instBEq := by
  have h : ∀ (a b : BEq (List Bool)) (_ : ∀ x y, a.beq x y = b.beq x y), a = b := fun a b h => by
    cases a; cases b
    congr
    funext x y
    exact h x y
  refine h _ _ fun x y => ?_
  rw [Bool.eq_iff_iff]
  exact ⟨fun e => by rw [show x = y from of_decide_eq_true e]; exact beq_self_eq_true y, fun e => decide_eq_true (eq_of_beq (α := List Bool) e)⟩
theorem rowS_next (f : List Bool → Nat → List Bool) (x m L) : rowS f x (m + 1) L = (metS (rowS f x m L).1 (f x m), (rowS f x m L).2 ++ [(rowS f x m L).1.idxOf (f x m)]) := by
  have h : rowS f x (m + 1) L = (metS (rowS f x m L).1 (f x m), (rowS f x m L).2 ++ [@List.idxOf _ instBEqOfDecidableEq (f x m) (rowS f x m L).1]) := rfl
  rw [beq_same] at h
  exact h
theorem SubAt.slot {o nx N S F ss fs lr L} (h : SubAt o nx N S F ss fs lr L) {o' : Ob} {nx' : Nat} (hk : ∀ j k, k ≠ 11 → k ≠ 9 → k ≠ 93 → k ≠ 106 → k ≠ 92 → k ≠ 105 → o' (j, k) = o (j, k)) (hn : nx ≤ nx') : SubAt o' nx' N S F ss fs lr L := by
  obtain ⟨lcs, vS, scs, h⟩ := h
  have h2 := h.two
  have hk : ∀ j k, (k = 20 ∨ k = 17 ∨ k = 18 ∨ k = 44 ∨ k = 45 ∨ k = 34) → o' (j, k) = o (j, k) := fun j k h => hk j k (by omega) (by omega) (by omega) (by omega) (by omega) (by omega)
  exact ⟨lcs, vS, scs, ⟨by omega, by rw [hk _ _ (by decide)]; exact h.row, by rw [hk _ _ (by decide)]; exact h.leads, h.rows.keep (fun i hi => hk i _ (by decide)) hn, h.ll, by rw [hk _ _ (by decide)]; exact h.known, h.hs.keep (fun i hi => hk i _ (by decide)) hn, h.ni.keep (fun i hi => hk i _ (by decide)) hn, h.ne⟩⟩
theorem natI_app (x y) : natI (x ++ y) = natI x ++ natI y := by simp [natI]
theorem natI_length (x) : (natI x).length = x.length := by simp [natI]
theorem accS_length (F L) : (accS F L).length = L.length := by simp [accS]
theorem fS_length (N ss fs b m) : (fS N ss fs b m).length = N := by unfold fS stepB; exact closeB_length ..
theorem t0S_length (N S fs) : (t0S N S fs).length = N := closeB_length ..
def noneV : AV := .tup [.agg [.sl 0 [], .sl 0 []], .int .i64 5]
noncomputable def subV (F : Int) (r : Option (List (List Bool) × List Nat)) : AV := match r with
  | none => noneV
  | some (L, R) => .tup [dfaV L.length (natI R) (accS F L), .int .i64 0]
noncomputable def XSub : FuncId → List AV → Option AV := tabLook [(33, tRel RClo), (35, tRel RAcc)]
theorem XSub_ok : CPSound Tryd.prog XSub := tab_cons (tab_cons (tab_nil _) (tRel_ok RAcc_ok)) (tRel_ok RClo_ok)
theorem XSub_clo {N : Nat} {S F : Int} {ss fs} (hw : Wf N S F ss fs) (l : List Int) (h : l.length ≤ 9000000) : XSub 33 [nfaV N S F ss fs, slI l] = some (slI (idxs (closeB N (rowsOf N fs) l))) := tRel_eq (R := RClo) RClo_fn ⟨_, _, _, _, _, _, hw, h, rfl, rfl⟩
theorem XSub_acc (N S F : Int) (rest : List AV) (l : List Int) (h : l.length ≤ 100000) : XSub 35 [.fptr (.int .i64 N :: .int .i64 S :: .int .i64 F :: rest), slI l] = some (.bool (decide (F ∈ l))) := tRel_eq (R := RAcc) RAcc_fn ⟨_, _, _, _, _, h, rfl, rfl⟩
def nzSub : Nat → Option (List (Nat × Nat))
  | 1 => some [(0, 3), (0, 4), (2, 4), (3, 4)]
  | 5 => some [(3, 15), (5, 15), (9, 15), (11, 15), (13, 15), (3, 16), (5, 16)]
  | 20 => some [(1, 3), (3, 6), (4, 6), (3, 11), (4, 11), (3, 14), (4, 14), (6, 16)]
  | 21 => some [(3, 5), (3, 6), (1, 7), (2, 7), (3, 7), (1, 9), (2, 9), (3, 9), (5, 9), (6, 9), (7, 9)]
  | _ => none
theorem lookSub (X) : lookedAt (EX md0 X) nzSub 2 Tryd.f21 = true := by kernel_rfl
set_option maxHeartbeats 4000000 in
theorem sub_wp (N : Nat) (S F : Int) (ss fs) (hN : N ≤ 1000) (hw : Wf N S F ss fs) (hss : ss.length ≤ 1000) (cap : Nat) (hc1 : 1 ≤ cap) (hc2 : cap ≤ 1000) :
    WP (EX md0 XSub) crSub 1003 nzSub (Tryd.f21.body.getD .skip) (begin_ [nfaV N S F ss fs, .int .i64 cap]) (fun _ => none) 0 (fun u a o nx => u = .ret ∧ view o vDepth (.tup [(aLoad Tryd.prog 25 (a 4) ⟨o, nx⟩).getD .und, a 5]) = subV F (subM N S ss fs cap)) := by
  have hS := hw.s
  have hF := hw.f
  simp only [Tryd.f21, Option.getD_some]
  simp (disch := omega) only [go_sem, ↓IntWalk.iteOmega, IntWalk.toNatUp, Nat.reduceEqDiff, Nat.reduceAdd, Nat.reduceMul, Nat.reduceSub, Nat.reduceLT, Nat.reduceLeDiff, Int.reduceToNat, Int.reduceLT, Int.reduceLE, Int.reduceEq, Int.reduceAdd, Int.reduceSub, Int.reduceMul, Int.toNat_natCast, reduceCtorEq, decide_true, decide_false, IntWalk.i64_in, IntWalk.u64_in, IntWalk.u8_in, nzSub, rep_one]
  refine WP_loop (fun mm a o nx => ∃ i lcs, i ≤ ss.length ∧ mm = ss.length - i ∧ SubRow o nx N S F ss fs (leadsOf N (ss.take i)) [] lcs .nil [] ∧ a 1 = .int .i64 cap ∧ a 2 = .ptr (0, 2) (0, 2) 0 ∧ a 4 = .ptr (0, 4) (0, 4) 0 ∧ a 5 = .int .i64 0 ∧ a 6 = subP ∧ a 22 = .sl ss.length (cS ss) ∧ a 23 = .int .i64 ss.length ∧ a 24 = .int .i64 i ∧ o (0, 2) = some (.row ⟨41, 1, (0, 2), false, true, [.int .i64 N, .int .i64 S, .int .i64 F, .sl ss.length (cS ss), .sl fs.length (cP fs)]⟩) ∧ o (0, 4) = some (.row ⟨25, 1, (0, 4), false, true, [.nil, .nil]⟩)) ss.length (by omega) ⟨0, List.replicate N .nil, by omega, by omega, ⟨by omega, ?_, ?_, NS.start _ _ _ N, by simp [leadsOf], ?_, HS.nil, ⟨rfl, fun j hj => absurd hj (by simp), fun j j' i g n g' n' _ h => by simp at h⟩, fun x hx => absurd hx (by simp)⟩, ?_⟩ ?_
  · simp (disch := omega) only [go_sem, ↓IntWalk.iteOmega, IntWalk.toNatUp, Nat.reduceEqDiff, Nat.reduceAdd, Nat.reduceMul, Nat.reduceSub, Nat.reduceLT, Nat.reduceLeDiff, Int.reduceToNat, Int.reduceLT, Int.reduceLE, Int.reduceEq, Int.reduceAdd, Int.reduceSub, Int.reduceMul, Int.toNat_natCast, reduceCtorEq, decide_true, decide_false, IntWalk.i64_in, IntWalk.u64_in, IntWalk.u8_in]
  · simp (disch := omega) only [go_sem, ↓IntWalk.iteOmega, IntWalk.toNatUp, Nat.reduceEqDiff, Nat.reduceAdd, Nat.reduceMul, Nat.reduceSub, Nat.reduceLT, Nat.reduceLeDiff, Int.reduceToNat, Int.reduceLT, Int.reduceLE, Int.reduceEq, Int.reduceAdd, Int.reduceSub, Int.reduceMul, Int.toNat_natCast, reduceCtorEq, decide_true, decide_false, IntWalk.i64_in, IntWalk.u64_in, IntWalk.u8_in]
  · simp (disch := omega) only [go_sem, ↓IntWalk.iteOmega, IntWalk.toNatUp, Nat.reduceEqDiff, Nat.reduceAdd, Nat.reduceMul, Nat.reduceSub, Nat.reduceLT, Nat.reduceLeDiff, Int.reduceToNat, Int.reduceLT, Int.reduceLE, Int.reduceEq, Int.reduceAdd, Int.reduceSub, Int.reduceMul, Int.toNat_natCast, reduceCtorEq, decide_true, decide_false, IntWalk.i64_in, IntWalk.u64_in, IntWalk.u8_in]
    rfl
  · simp (disch := omega) only [go_sem, ↓IntWalk.iteOmega, IntWalk.toNatUp, Nat.reduceEqDiff, Nat.reduceAdd, Nat.reduceMul, Nat.reduceSub, Nat.reduceLT, Nat.reduceLeDiff, Int.reduceToNat, Int.reduceLT, Int.reduceLE, Int.reduceEq, Int.reduceAdd, Int.reduceSub, Int.reduceMul, Int.toNat_natCast, reduceCtorEq, decide_true, decide_false, IntWalk.i64_in, IntWalk.u64_in, IntWalk.u8_in]
  rintro mm a o nx ⟨i, lcs, hi, rfl, hR, h1, h2, h4, h5, h6, h22, h23, h24, ho2, ho4⟩
  have htwo := hR.two
  have ho20 := hR.row
  have ho17 := hR.leads
  have ho18 := hR.known
  have hNS := hR.rows
  by_cases hlt : i < ss.length
  · obtain ⟨⟨hf0, hfN⟩, _⟩ := hw.steps (ss.getD i (0, 0, 0)) (getD_mem hlt _)
    have hat := cS_at hlt
    have htake := take_succ_getD hlt (0, 0, 0)
    generalize ss.getD i (0, 0, 0) = p at hf0 hfN hat htake
    obtain ⟨f, t, set⟩ := p
    simp only at hf0 hfN hat htake
    obtain ⟨j, rfl⟩ := Int.eq_ofNat_of_zero_le hf0
    have hrl := leadsOf_length N (ss.take i)
    have hcl : lcs.length = N := by rw [hNS.1, hrl]
    have hjN : j < lcs.length := by omega
    have hH := hNS.2.1 j (by omega)
    have hget := cs_get (s := 1) hjN
    generalize hv : lcs.getD j .nil = v at hH hget
    have hspl : ∀ v, splice lcs j [v] = lcs.set j v := fun v => splice_eq lcs j v hjN
    have hnext : leadsOf N (ss.take (i + 1)) = (leadsOf N (ss.take i)).set j ((leadsOf N (ss.take i)).getD j [] ++ [((j : Int), t, set)]) := by rw [htake, leadsOf_snoc]; rfl
    have hjr : j < (leadsOf N (ss.take i)).length := by omega
    have hle := leadsOf_le N (ss.take i) j
    have hlt' : (ss.take i).length ≤ ss.length := by simp; omega
    rcases hH with ⟨rfl, e2, e3⟩ | ⟨i1, g, rfl, hi1, hrow, hlen⟩
    · simp (disch := omega) only [go_sem, ↓IntWalk.iteOmega, IntWalk.toNatUp, Nat.reduceEqDiff, Nat.reduceAdd, Nat.reduceMul, Nat.reduceSub, Nat.reduceLT, Nat.reduceLeDiff, Int.reduceToNat, Int.reduceLT, Int.reduceLE, Int.reduceEq, Int.reduceAdd, Int.reduceSub, Int.reduceMul, Int.toNat_natCast, reduceCtorEq, decide_true, decide_false, IntWalk.i64_in, IntWalk.u64_in, IntWalk.u8_in, nzSub, h1, h2, h4, h5, h6, h22, h23, h24, ho2, ho4, ho20, ho17, hat, hget, hspl]
      have e4 : (leadsOf N (ss.take i)).getD j [] = [] := List.length_eq_zero_iff.1 e2
      refine ⟨_, ?_, i + 1, _, by omega, rfl, ⟨by omega, ?_, upd_same _ _ _, ?_, leadsOf_length _ _, ?_, HS.nil, ?_, fun x hx => absurd hx (by simp)⟩, rfl⟩
      · omega
      · simp (disch := omega) only [go_sem, ↓IntWalk.iteOmega, IntWalk.toNatUp, Nat.reduceEqDiff, Nat.reduceAdd, Nat.reduceMul, Nat.reduceSub, Nat.reduceLT, Nat.reduceLeDiff, Int.reduceToNat, Int.reduceLT, Int.reduceLE, Int.reduceEq, Int.reduceAdd, Int.reduceSub, Int.reduceMul, Int.toNat_natCast, reduceCtorEq, decide_true, decide_false, IntWalk.i64_in, IntWalk.u64_in, IntWalk.u8_in, ho20]
      · rw [hnext, e4]
        exact NS.set (l := [((j : Int), t, set)]) hNS hjr rfl (by omega) (by omega) (.inl ⟨hv, by omega⟩) (fun i' _ h => by simp [upd_app, h]) (by simp [upd_app, cS])
      · simp (disch := omega) only [go_sem, ↓IntWalk.iteOmega, IntWalk.toNatUp, Nat.reduceEqDiff, Nat.reduceAdd, Nat.reduceMul, Nat.reduceSub, Nat.reduceLT, Nat.reduceLeDiff, Int.reduceToNat, Int.reduceLT, Int.reduceLE, Int.reduceEq, Int.reduceAdd, Int.reduceSub, Int.reduceMul, Int.toNat_natCast, reduceCtorEq, decide_true, decide_false, IntWalk.i64_in, IntWalk.u64_in, IntWalk.u8_in, ho18]
      · exact hR.ni.keep (fun _ _ => by simp [upd_app]) (by omega)
    · generalize (leadsOf N (ss.take i)).getD j [] = r at *
      simp (disch := omega) only [go_sem, ↓IntWalk.iteOmega, IntWalk.toNatUp, Nat.reduceEqDiff, Nat.reduceAdd, Nat.reduceMul, Nat.reduceSub, Nat.reduceLT, Nat.reduceLeDiff, Int.reduceToNat, Int.reduceLT, Int.reduceLE, Int.reduceEq, Int.reduceAdd, Int.reduceSub, Int.reduceMul, Int.toNat_natCast, reduceCtorEq, decide_true, decide_false, IntWalk.i64_in, IntWalk.u64_in, IntWalk.u8_in, nzSub, h1, h2, h4, h5, h6, h22, h23, h24, ho2, ho4, ho20, ho17, hat, hget, hspl, hrow]
      refine ⟨_, ?_, i + 1, _, by omega, rfl, ⟨by omega, ?_, upd_same _ _ _, ?_, leadsOf_length _ _, ?_, HS.nil, ?_, fun x hx => absurd hx (by simp)⟩, rfl⟩
      · omega
      · simp (disch := omega) only [go_sem, ↓IntWalk.iteOmega, IntWalk.toNatUp, Nat.reduceEqDiff, Nat.reduceAdd, Nat.reduceMul, Nat.reduceSub, Nat.reduceLT, Nat.reduceLeDiff, Int.reduceToNat, Int.reduceLT, Int.reduceLE, Int.reduceEq, Int.reduceAdd, Int.reduceSub, Int.reduceMul, Int.toNat_natCast, reduceCtorEq, decide_true, decide_false, IntWalk.i64_in, IntWalk.u64_in, IntWalk.u8_in, ho20]
      · rw [hnext]
        exact NS.set (l := r ++ [((j : Int), t, set)]) hNS hjr (by simp) (by omega) (by omega) (.inr ⟨_, _, hv⟩) (fun i' _ h => by simp [upd_app, h]) (by simp [upd_app, cS])
      · simp (disch := omega) only [go_sem, ↓IntWalk.iteOmega, IntWalk.toNatUp, Nat.reduceEqDiff, Nat.reduceAdd, Nat.reduceMul, Nat.reduceSub, Nat.reduceLT, Nat.reduceLeDiff, Int.reduceToNat, Int.reduceLT, Int.reduceLE, Int.reduceEq, Int.reduceAdd, Int.reduceSub, Int.reduceMul, Int.toNat_natCast, reduceCtorEq, decide_true, decide_false, IntWalk.i64_in, IntWalk.u64_in, IntWalk.u8_in, ho18]
      · exact hR.ni.keep (fun _ _ => by simp [upd_app]) (by omega)
  · have hie : i = ss.length := by omega
    subst hie
    rw [List.take_length] at hR
    have hclo : XSub 33 [nfaV N S F ss fs, .sl 1 [.int .i64 S]] = some (slI (idxs (t0S N S fs))) := XSub_clo hw [S] (by simp)
    have hk0 : BKeep40 nx o (sealed [(nx + 1, 51)] (upd o (nx + 1, 51) (.row ⟨3, 1, (nx + 1, 51), false, true, [.int .i64 S]⟩))) := fun i k hi hk => by
      rw [sealed_out (by simp; omega), upd_fst (by omega)]
    simp (disch := omega) only [go_sem, ↓IntWalk.iteOmega, IntWalk.toNatUp, Nat.reduceEqDiff, Nat.reduceAdd, Nat.reduceMul, Nat.reduceSub, Nat.reduceLT, Nat.reduceLeDiff, Int.reduceToNat, Int.reduceLT, Int.reduceLE, Int.reduceEq, Int.reduceAdd, Int.reduceSub, Int.reduceMul, Int.toNat_natCast, reduceCtorEq, decide_true, decide_false, IntWalk.i64_in, IntWalk.u64_in, IntWalk.u8_in, nzSub, h1, h2, h4, h5, h6, h22, h23, h24, ho2, ho4, hclo]
    refine met_call hN (SubAt.keep ⟨lcs, .nil, [], hR⟩ hk0 (by omega)) (fun b hb => absurd hb (by simp)) (by simp) (t0S_length N S fs) ?_
    intro o1 nx1 hle1 hS1 hkp1
    have hm1 : metS [] (t0S N S fs) = [t0S N S fs] := rfl
    rw [hm1] at hS1
    have ho4' : o1 (0, 4) = some (.row ⟨25, 1, (0, 4), false, true, [.nil, .nil]⟩) := by
      rw [hkp1 0 4 (by omega) (by decide) (by decide) (by decide) (by decide), hk0 0 4 (by omega) (by decide)]
      exact ho4
    clear hR ho2 ho4 hNS ho20 ho17 ho18 hkp1 hk0 hclo
    simp (disch := omega) only [go_sem, ↓IntWalk.iteOmega, IntWalk.toNatUp, Nat.reduceEqDiff, Nat.reduceAdd, Nat.reduceMul, Nat.reduceSub, Nat.reduceLT, Nat.reduceLeDiff, Int.reduceToNat, Int.reduceLT, Int.reduceLE, Int.reduceEq, Int.reduceAdd, Int.reduceSub, Int.reduceMul, Int.toNat_natCast, reduceCtorEq, decide_true, decide_false, IntWalk.i64_in, IntWalk.u64_in, IntWalk.u8_in, nzSub, h1, h2, h4, h5, h6, h22, h23, h24]
    have two1 : 2 ≤ nx1 := by omega
    refine WP_loop (fun mm a o nx => ∃ i L R q9 vN vA, bfsS (fS N ss fs) cap (1002 - i) i L R = subM N S ss fs cap ∧ mm = 1002 - i ∧ i ≤ L.length ∧ 1 ≤ L.length ∧ L.length ≤ cap ∧ R.length = i * 5 ∧ (∀ b ∈ L, b.length = N) ∧ SubAt o nx N S F ss fs (leadsOf N ss) L ∧ q9 < nx ∧ o (q9, 9) = some (.row ⟨25, 1, (q9, 9), false, true, [vN, vA]⟩) ∧ HS 31 5 93 o nx vN i (cI (natI R)) ∧ HS 4 1 106 o nx vA i (cB (accS F (L.take i))) ∧ o (0, 4) = some (.row ⟨25, 1, (0, 4), false, true, [.nil, .nil]⟩) ∧ a 1 = .int .i64 cap ∧ a 4 = .ptr (0, 4) (0, 4) 0 ∧ a 5 = .int .i64 0 ∧ a 6 = subP ∧ a 9 = .ptr (q9, 9) (q9, 9) 0 ∧ a 10 = .int .i64 i) 1002 (by omega)
      ⟨0, [t0S N S fs], [], nx1, .nil, .nil, rfl, by omega, by simp, by simp, by simp; omega, rfl, fun b hb => by rw [List.mem_singleton.1 hb]; exact t0S_length N S fs, hS1.keep (fun i k hi hk => by rw [upd_fst (by omega)]) (by omega), by omega, upd_same _ _ _, HS.nil, HS.nil, by simp (disch := omega) only [go_sem, ↓IntWalk.iteOmega, IntWalk.toNatUp, Nat.reduceEqDiff, Nat.reduceAdd, Nat.reduceMul, Nat.reduceSub, Nat.reduceLT, Nat.reduceLeDiff, Int.reduceToNat, Int.reduceLT, Int.reduceLE, Int.reduceEq, Int.reduceAdd, Int.reduceSub, Int.reduceMul, Int.toNat_natCast, reduceCtorEq, decide_true, decide_false, IntWalk.i64_in, IntWalk.u64_in, IntWalk.u8_in, ho4'], by simp (disch := omega) only [go_sem, ↓IntWalk.iteOmega, IntWalk.toNatUp, Nat.reduceEqDiff, Nat.reduceAdd, Nat.reduceMul, Nat.reduceSub, Nat.reduceLT, Nat.reduceLeDiff, Int.reduceToNat, Int.reduceLT, Int.reduceLE, Int.reduceEq, Int.reduceAdd, Int.reduceSub, Int.reduceMul, Int.toNat_natCast, reduceCtorEq, decide_true, decide_false, IntWalk.i64_in, IntWalk.u64_in, IntWalk.u8_in, h1], by simp (disch := omega) only [go_sem, ↓IntWalk.iteOmega, IntWalk.toNatUp, Nat.reduceEqDiff, Nat.reduceAdd, Nat.reduceMul, Nat.reduceSub, Nat.reduceLT, Nat.reduceLeDiff, Int.reduceToNat, Int.reduceLT, Int.reduceLE, Int.reduceEq, Int.reduceAdd, Int.reduceSub, Int.reduceMul, Int.toNat_natCast, reduceCtorEq, decide_true, decide_false, IntWalk.i64_in, IntWalk.u64_in, IntWalk.u8_in, h4], by simp (disch := omega) only [go_sem, ↓IntWalk.iteOmega, IntWalk.toNatUp, Nat.reduceEqDiff, Nat.reduceAdd, Nat.reduceMul, Nat.reduceSub, Nat.reduceLT, Nat.reduceLeDiff, Int.reduceToNat, Int.reduceLT, Int.reduceLE, Int.reduceEq, Int.reduceAdd, Int.reduceSub, Int.reduceMul, Int.toNat_natCast, reduceCtorEq, decide_true, decide_false, IntWalk.i64_in, IntWalk.u64_in, IntWalk.u8_in, h5], by simp (disch := omega) only [go_sem, ↓IntWalk.iteOmega, IntWalk.toNatUp, Nat.reduceEqDiff, Nat.reduceAdd, Nat.reduceMul, Nat.reduceSub, Nat.reduceLT, Nat.reduceLeDiff, Int.reduceToNat, Int.reduceLT, Int.reduceLE, Int.reduceEq, Int.reduceAdd, Int.reduceSub, Int.reduceMul, Int.toNat_natCast, reduceCtorEq, decide_true, decide_false, IntWalk.i64_in, IntWalk.u64_in, IntWalk.u8_in, h6], by simp (disch := omega) only [go_sem, ↓IntWalk.iteOmega, IntWalk.toNatUp, Nat.reduceEqDiff, Nat.reduceAdd, Nat.reduceMul, Nat.reduceSub, Nat.reduceLT, Nat.reduceLeDiff, Int.reduceToNat, Int.reduceLT, Int.reduceLE, Int.reduceEq, Int.reduceAdd, Int.reduceSub, Int.reduceMul, Int.toNat_natCast, reduceCtorEq, decide_true, decide_false, IntWalk.i64_in, IntWalk.u64_in, IntWalk.u8_in], by simp (disch := omega) only [go_sem, ↓IntWalk.iteOmega, IntWalk.toNatUp, Nat.reduceEqDiff, Nat.reduceAdd, Nat.reduceMul, Nat.reduceSub, Nat.reduceLT, Nat.reduceLeDiff, Int.reduceToNat, Int.reduceLT, Int.reduceLE, Int.reduceEq, Int.reduceAdd, Int.reduceSub, Int.reduceMul, Int.toNat_natCast, reduceCtorEq, decide_true, decide_false, IntWalk.i64_in, IntWalk.u64_in, IntWalk.u8_in]⟩ ?_
    clear hS1 ho4' h1 h2 h4 h5 h6 h22 h23 h24
    rintro mm a o nx ⟨i, L, R, q9, vN, vA, hB, rfl, hi, hL1, hLc, hRl, hLN, hSub, hq9, ho9, hvN, hvA, ho4, h1, h4, h5, h6, h9, h10⟩
    have hSub' := hSub
    obtain ⟨lcs, vS, scs, hR⟩ := hSub'
    have two := hR.two
    have ho20 := hR.row
    have hLs := hR.hs
    by_cases hlt : i < L.length
    · rcases hLs with ⟨_, e, _⟩ | ⟨i5, g5, rfl, hi5, hro5, hl5⟩
      · omega
      obtain ⟨x, hx⟩ : ∃ x, L[i]? = some x := ⟨_, List.getElem?_eq_getElem hlt⟩
      have hxN := hLN x (List.mem_of_getElem? hx)
      simp (disch := omega) only [go_sem, ↓IntWalk.iteOmega, IntWalk.toNatUp, Nat.reduceEqDiff, Nat.reduceAdd, Nat.reduceMul, Nat.reduceSub, Nat.reduceLT, Nat.reduceLeDiff, Int.reduceToNat, Int.reduceLT, Int.reduceLE, Int.reduceEq, Int.reduceAdd, Int.reduceSub, Int.reduceMul, Int.toNat_natCast, reduceCtorEq, decide_true, decide_false, IntWalk.i64_in, IntWalk.u64_in, IntWalk.u8_in, nzSub, h1, h4, h5, h6, h9, h10, ho20]
      refine WP_loop (fun mm a o' nx' => ∃ m q11, m ≤ 5 ∧ mm = 5 - m ∧ nx ≤ nx' ∧ SubAt o' nx' N S F ss fs (leadsOf N ss) (rowS (fS N ss fs) x m L).1 ∧ (rowS (fS N ss fs) x m L).1.length ≤ cap ∧ nx ≤ q11 ∧ q11 < nx' ∧ o' (q11, 11) = some (.row ⟨31, 1, (q11, 11), false, true, cI (natI (rowS (fS N ss fs) x m L).2 ++ List.replicate (5 - m) 0)⟩) ∧ (∀ j k, j < nx → (k = 9 ∨ k = 93 ∨ k = 106 ∨ k = 4) → o' (j, k) = o (j, k)) ∧
        a 1 = .int .i64 cap ∧ a 4 = .ptr (0, 4) (0, 4) 0 ∧ a 5 = .int .i64 0 ∧ a 6 = subP ∧ a 9 = .ptr (q9, 9) (q9, 9) 0 ∧ a 10 = .int .i64 i ∧ a 11 = .ptr (q11, 11) (q11, 11) 0 ∧ a 63 = .int .i64 m) 5 (by omega)
        ⟨0, nx + 1, by omega, by omega, by omega, hSub.keep (fun j k hj hk => by rw [upd_fst (by omega)]) (by omega), hLc, by omega, by omega, upd_same _ _ _, fun j k hj hk => by rw [upd_fst (by omega)], by simp (disch := omega) only [go_sem, ↓IntWalk.iteOmega, IntWalk.toNatUp, Nat.reduceEqDiff, Nat.reduceAdd, Nat.reduceMul, Nat.reduceSub, Nat.reduceLT, Nat.reduceLeDiff, Int.reduceToNat, Int.reduceLT, Int.reduceLE, Int.reduceEq, Int.reduceAdd, Int.reduceSub, Int.reduceMul, Int.toNat_natCast, reduceCtorEq, decide_true, decide_false, IntWalk.i64_in, IntWalk.u64_in, IntWalk.u8_in, h1], by simp (disch := omega) only [go_sem, ↓IntWalk.iteOmega, IntWalk.toNatUp, Nat.reduceEqDiff, Nat.reduceAdd, Nat.reduceMul, Nat.reduceSub, Nat.reduceLT, Nat.reduceLeDiff, Int.reduceToNat, Int.reduceLT, Int.reduceLE, Int.reduceEq, Int.reduceAdd, Int.reduceSub, Int.reduceMul, Int.toNat_natCast, reduceCtorEq, decide_true, decide_false, IntWalk.i64_in, IntWalk.u64_in, IntWalk.u8_in, h4], by simp (disch := omega) only [go_sem, ↓IntWalk.iteOmega, IntWalk.toNatUp, Nat.reduceEqDiff, Nat.reduceAdd, Nat.reduceMul, Nat.reduceSub, Nat.reduceLT, Nat.reduceLeDiff, Int.reduceToNat, Int.reduceLT, Int.reduceLE, Int.reduceEq, Int.reduceAdd, Int.reduceSub, Int.reduceMul, Int.toNat_natCast, reduceCtorEq, decide_true, decide_false, IntWalk.i64_in, IntWalk.u64_in, IntWalk.u8_in, h5], by simp (disch := omega) only [go_sem, ↓IntWalk.iteOmega, IntWalk.toNatUp, Nat.reduceEqDiff, Nat.reduceAdd, Nat.reduceMul, Nat.reduceSub, Nat.reduceLT, Nat.reduceLeDiff, Int.reduceToNat, Int.reduceLT, Int.reduceLE, Int.reduceEq, Int.reduceAdd, Int.reduceSub, Int.reduceMul, Int.toNat_natCast, reduceCtorEq, decide_true, decide_false, IntWalk.i64_in, IntWalk.u64_in, IntWalk.u8_in, h6], by simp (disch := omega) only [go_sem, ↓IntWalk.iteOmega, IntWalk.toNatUp, Nat.reduceEqDiff, Nat.reduceAdd, Nat.reduceMul, Nat.reduceSub, Nat.reduceLT, Nat.reduceLeDiff, Int.reduceToNat, Int.reduceLT, Int.reduceLE, Int.reduceEq, Int.reduceAdd, Int.reduceSub, Int.reduceMul, Int.toNat_natCast, reduceCtorEq, decide_true, decide_false, IntWalk.i64_in, IntWalk.u64_in, IntWalk.u8_in, h9], by simp (disch := omega) only [go_sem, ↓IntWalk.iteOmega, IntWalk.toNatUp, Nat.reduceEqDiff, Nat.reduceAdd, Nat.reduceMul, Nat.reduceSub, Nat.reduceLT, Nat.reduceLeDiff, Int.reduceToNat, Int.reduceLT, Int.reduceLE, Int.reduceEq, Int.reduceAdd, Int.reduceSub, Int.reduceMul, Int.toNat_natCast, reduceCtorEq, decide_true, decide_false, IntWalk.i64_in, IntWalk.u64_in, IntWalk.u8_in, h10], by simp (disch := omega) only [go_sem, ↓IntWalk.iteOmega, IntWalk.toNatUp, Nat.reduceEqDiff, Nat.reduceAdd, Nat.reduceMul, Nat.reduceSub, Nat.reduceLT, Nat.reduceLeDiff, Int.reduceToNat, Int.reduceLT, Int.reduceLE, Int.reduceEq, Int.reduceAdd, Int.reduceSub, Int.reduceMul, Int.toNat_natCast, reduceCtorEq, decide_true, decide_false, IntWalk.i64_in, IntWalk.u64_in, IntWalk.u8_in], by simp (disch := omega) only [go_sem, ↓IntWalk.iteOmega, IntWalk.toNatUp, Nat.reduceEqDiff, Nat.reduceAdd, Nat.reduceMul, Nat.reduceSub, Nat.reduceLT, Nat.reduceLeDiff, Int.reduceToNat, Int.reduceLT, Int.reduceLE, Int.reduceEq, Int.reduceAdd, Int.reduceSub, Int.reduceMul, Int.toNat_natCast, reduceCtorEq, decide_true, decide_false, IntWalk.i64_in, IntWalk.u64_in, IntWalk.u8_in]⟩ ?_
      clear hR ho20 hro5 hl5 hSub h1 h4 h5 h6 h9 h10
      rintro mm a o' nx' ⟨m, q11, hm, rfl, hnx', hSub, hcap, hq11', hq11, ho11, hkp, h1, h4, h5, h6, h9, h10, h11, h63⟩
      have hpre := rowS_pre (f := fS N ss fs) x m L
      have hrl := rowS_len (f := fS N ss fs) x m L
      have hrN := rowS_all (f := fS N ss fs) (fun b => b.length = N) x (fun m => fS_length N ss fs x m) m hLN
      have hx' := pre_get hpre hx
      have hsucc := rowS_next (fS N ss fs) x m L
      by_cases hm5 : m < 5
      · have hSub' := hSub
        obtain ⟨lcs', vS', scs', hR'⟩ := hSub'
        have ho20 := hR'.row
        have hltL : i < (rowS (fS N ss fs) x m L).1.length := (List.getElem?_eq_some_iff.1 hx').1
        generalize hL' : (rowS (fS N ss fs) x m L).1 = L' at *
        generalize hR2 : (rowS (fS N ss fs) x m L).2 = R' at *
        rcases hR'.hs with ⟨_, e, _⟩ | ⟨i6, g6, rfl, hi6, hro6, hl6⟩
        · omega
        have hsl : i < scs'.length := by omega
        have hget := cs_get (s := 1) hsl
        have hgi : (L'.map idxs).getD i [] = idxs x := by simp [List.getD, hx']
        have hH := hR'.ni.2.1 i (by simpa using hltL)
        rw [hgi] at hH
        rcases hH with ⟨e, _, _⟩ | ⟨i7, g7, e7, hi7, hro7, _⟩
        · exact absurd e (hR'.ne _ (getD_mem hsl _))
        rw [e7] at hget
        simp (disch := omega) only [go_sem, ↓IntWalk.iteOmega, IntWalk.toNatUp, Nat.reduceEqDiff, Nat.reduceAdd, Nat.reduceMul, Nat.reduceSub, Nat.reduceLT, Nat.reduceLeDiff, Int.reduceToNat, Int.reduceLT, Int.reduceLE, Int.reduceEq, Int.reduceAdd, Int.reduceSub, Int.reduceMul, Int.toNat_natCast, reduceCtorEq, decide_true, decide_false, IntWalk.i64_in, IntWalk.u64_in, IntWalk.u8_in, nzSub, h1, h4, h5, h6, h9, h10, h11, h63, ho20, hro6, hget]
        refine by_call (by omega) hw hss (hSub.keep (fun _ _ _ _ => rfl) (by omega)) hxN (by omega) hro7 (by omega) ?_
        intro o2 nx2 hle2 hk2
        obtain ⟨t, ht⟩ : ∃ t, t = fS N ss fs x m := ⟨_, rfl⟩
        have hst : stepB N (rowsOf N fs) ss x (m : Int) = t := ht.symm
        have htl : t.length = N := by rw [ht]; exact fS_length N ss fs x m
        rw [← ht] at hsucc
        rw [hst]
        simp (disch := omega) only [go_sem, ↓IntWalk.iteOmega, IntWalk.toNatUp, Nat.reduceEqDiff, Nat.reduceAdd, Nat.reduceMul, Nat.reduceSub, Nat.reduceLT, Nat.reduceLeDiff, Int.reduceToNat, Int.reduceLT, Int.reduceLE, Int.reduceEq, Int.reduceAdd, Int.reduceSub, Int.reduceMul, Int.toNat_natCast, reduceCtorEq, decide_true, decide_false, IntWalk.i64_in, IntWalk.u64_in, IntWalk.u8_in, nzSub, h1, h4, h5, h6, h9, h10, h11, h63]
        refine met_call hN ((hSub.keep (nx' := nx' + 1 + 1 + 1) (fun _ _ _ _ => rfl) (by omega)).keep hk2 (by omega)) hrN (by omega) htl ?_
        intro o3 nx3 hle3 hS3 hk3
        have old : ∀ j k, j < nx' → k ≠ 20 → k ≠ 18 → k ≠ 45 → k ≠ 40 → o3 (j, k) = o' (j, k) := fun j k hj a1 a2 a3 a4 => by
          rw [hk3 j k (by omega) a1 a2 a3 a4, hk2 j k (by omega) a4]
        have ho11' := (old q11 11 hq11 (by decide) (by decide) (by decide) (by decide)).trans ho11
        have ho4' := (old 0 4 (by omega) (by decide) (by decide) (by decide) (by decide)).trans ((hkp 0 4 (by omega) (by decide)).trans ho4)
        have hpos : 1 ≤ (metS L' t).length := by have := (metS_pre L' t).length_le; omega
        have hS3' := hS3
        obtain ⟨lcs3, vS3, scs3, hR3⟩ := hS3'
        have ho20' := hR3.row
        rcases hR3.hs with ⟨_, e, _⟩ | ⟨i8, g8, rfl, hi8, hro8, hl8⟩
        · omega
        have hset : ∀ k : Nat, splice (cI (natI R' ++ List.replicate (5 - m) 0)) m [.int .i64 (k : Int)] = cI (natI (R' ++ [k]) ++ List.replicate (5 - (m + 1)) 0) := fun k => by
          rw [cI_set _ _ _ (by rw [List.length_append, natI_length, List.length_replicate]; omega), natI_app, List.set_append, if_neg (by rw [natI_length]; omega), natI_length, hrl, Nat.sub_self]
          obtain ⟨d, hd⟩ : ∃ d, 5 - m = d + 1 := ⟨4 - m, by omega⟩
          rw [hd, show 5 - (m + 1) = d by omega, List.replicate_succ]
          simp [natI]
        by_cases hbig : (cap : Int) < (metS L' t).length
        · have hnone : subM N S ss fs cap = none := by
            rw [← hB, show 1002 - i = (1001 - i) + 1 by omega, bfsS_succ, hx]
            dsimp only
            rw [if_pos]
            have := (rowS_pre' (f := fS N ss fs) x L (show m + 1 ≤ 5 by omega)).length_le
            rw [hsucc] at this
            dsimp only at this
            omega
          rw [hnone]
          simp (disch := omega) only [go_sem, ↓IntWalk.iteOmega, IntWalk.toNatUp, Nat.reduceEqDiff, Nat.reduceAdd, Nat.reduceMul, Nat.reduceSub, Nat.reduceLT, Nat.reduceLeDiff, Int.reduceToNat, Int.reduceLT, Int.reduceLE, Int.reduceEq, Int.reduceAdd, Int.reduceSub, Int.reduceMul, Int.toNat_natCast, reduceCtorEq, decide_true, decide_false, IntWalk.i64_in, IntWalk.u64_in, IntWalk.u8_in, nzSub, h1, h4, h5, h6, h9, h10, h11, h63, ho11', ho4', ho20', hset, natI_length, hrl, hbig]
          rfl
        · simp (disch := omega) only [go_sem, ↓IntWalk.iteOmega, IntWalk.toNatUp, Nat.reduceEqDiff, Nat.reduceAdd, Nat.reduceMul, Nat.reduceSub, Nat.reduceLT, Nat.reduceLeDiff, Int.reduceToNat, Int.reduceLT, Int.reduceLE, Int.reduceEq, Int.reduceAdd, Int.reduceSub, Int.reduceMul, Int.toNat_natCast, reduceCtorEq, decide_true, decide_false, IntWalk.i64_in, IntWalk.u64_in, IntWalk.u8_in, nzSub, h1, h4, h5, h6, h9, h10, h11, h63, ho11', ho4', ho20', hset, natI_length, hrl, hbig]
          refine ⟨_, ?_, m + 1, q11, by omega, rfl, by omega, ?_, ?_, hq11', by omega, ?_, ?_, rfl, rfl⟩
          · omega
          · rw [hsucc]
            exact hS3.slot (fun j k a1 _ _ _ _ _ => by rw [upd_app, if_neg a1]) (by omega)
          · rw [hsucc]
            show (metS L' t).length ≤ cap
            omega
          · rw [if_pos rfl, hsucc]
          · intro j k hj hk
            rw [if_neg (by omega)]
            exact (old j k (by omega) (by omega) (by omega) (by omega) (by omega)).trans (hkp j k hj hk)
      · have hme : m = 5 := by omega
        subst hme
        have hB' : bfsS (fS N ss fs) cap (1002 - (i + 1)) (i + 1) (rowS (fS N ss fs) x 5 L).1 (R ++ (rowS (fS N ss fs) x 5 L).2) = subM N S ss fs cap := by
          rw [← hB, show 1002 - i = (1002 - (i + 1)) + 1 by omega, bfsS_succ, hx]
          dsimp only
          rw [if_neg (by omega)]
        have hSub' := hSub
        obtain ⟨lcs', vS', scs', hR'⟩ := hSub'
        have ho20 := hR'.row
        have ho17 := hR'.leads
        have hltL : i < (rowS (fS N ss fs) x 5 L).1.length := (List.getElem?_eq_some_iff.1 hx').1
        have hLi : (rowS (fS N ss fs) x 5 L).1.take (i + 1) = L.take i ++ [x] := by
          rw [List.take_add_one, hx']
          obtain ⟨tl, htl⟩ := hpre
          rw [← htl, List.take_append_of_le_length (by omega)]
          rfl
        generalize hL' : (rowS (fS N ss fs) x 5 L).1 = L' at *
        generalize hR2 : (rowS (fS N ss fs) x 5 L).2 = R' at *
        rcases hR'.hs with ⟨_, e, _⟩ | ⟨i6, g6, rfl, hi6, hro6, hl6⟩
        · omega
        have hsl : i < scs'.length := by omega
        have hget := cs_get (s := 1) hsl
        have hgi : (L'.map idxs).getD i [] = idxs x := by simp [List.getD, hx']
        have hH := hR'.ni.2.1 i (by simpa using hltL)
        rw [hgi] at hH
        rcases hH with ⟨e, _, _⟩ | ⟨i7, g7, e7, hi7, hro7, _⟩
        · exact absurd e (hR'.ne _ (getD_mem hsl _))
        rw [e7] at hget
        have ho9' := (hkp q9 9 hq9 (by decide)).trans ho9
        have ho4' := (hkp 0 4 (by omega) (by decide)).trans ho4
        have hvN' := hvN.keep (fun j hj => hkp j 93 hj (by decide)) hnx'
        have hvA' := hvA.keep (fun j hj => hkp j 106 hj (by decide)) hnx'
        have hacc := fun rest => XSub_acc N S F rest (idxs x) (by have := idxs_le x; omega)
        have hdec : decide (F ∈ idxs x) = x.getD F.toNat false := by
          rw [Bool.eq_iff_iff, decide_eq_true_iff, mem_idxs]
          exact ⟨fun ⟨s, hs, hb⟩ => by rw [show F.toNat = s by omega]; exact hb, fun hb => ⟨F.toNat, by omega, hb⟩⟩
        obtain ⟨r0, r1, r2, r3, r4, hRe⟩ : ∃ r0 r1 r2 r3 r4, R' = [r0, r1, r2, r3, r4] := by
          match R', hrl with
          | [a, b, c, d, e], _ => exact ⟨a, b, c, d, e, rfl⟩
        have ho11 : o' (q11, 11) = some (.row ⟨31, 1, (q11, 11), false, true, [.int .i64 r0, .int .i64 r1, .int .i64 r2, .int .i64 r3, .int .i64 r4]⟩) := by
          rw [ho11, hRe]
          rfl
        have hRR : cI (natI (R ++ R')) = cI (natI R) ++ [.int .i64 r0, .int .i64 r1, .int .i64 r2, .int .i64 r3, .int .i64 r4] := by
          rw [natI_app, cI_app, hRe]
          rfl
        have htkR : (cI (natI R)).take (i * 5) = cI (natI R) := take_len (by rw [cI_length, natI_length]; exact hRl)
        have htkA : (cB (accS F (L.take i))).take i = cB (accS F (L.take i)) := take_len (by rw [cB_length, accS_length, List.length_take]; omega)
        have hacs : accS F (L.take i ++ [x]) = accS F (L.take i) ++ [x.getD F.toNat false] := by simp [accS]
        have htks : (scs'.take L'.length) = scs' := take_len (by omega)
        rcases hvN' with ⟨rfl, e1, e2⟩ | ⟨i8, g8, rfl, hi8, hro8, hl8⟩
        · rcases hvA' with ⟨rfl, e3, e4⟩ | ⟨i9, g9, rfl, hi9, hro9, hl9⟩
          · simp (disch := omega) only [go_sem, ↓IntWalk.iteOmega, IntWalk.toNatUp, Nat.reduceEqDiff, Nat.reduceAdd, Nat.reduceMul, Nat.reduceSub, Nat.reduceLT, Nat.reduceLeDiff, Int.reduceToNat, Int.reduceLT, Int.reduceLE, Int.reduceEq, Int.reduceAdd, Int.reduceSub, Int.reduceMul, Int.toNat_natCast, reduceCtorEq, decide_true, decide_false, IntWalk.i64_in, IntWalk.u64_in, IntWalk.u8_in, nzSub, h1, h4, h5, h6, h9, h10, h11, h63, ho11, ho9', ho4', ho20, ho17, hro6, hro7, hget, hacc, hdec]
            refine ⟨_, ?_, i + 1, L', R ++ R', q9, _, _, hB', rfl, by omega, by omega, hcap, by rw [List.length_append, hRl, hrl]; omega, hrN, hSub.slot (fun j k a1 a2 a3 a4 a5 a6 => by simp [upd_app, a1, a2, a3, a4, a5, a6]) (by omega), by omega, by rw [if_pos rfl], .inr ⟨nx' + 1, (nx' + 1, 93), by rw [e1], by omega, ?_, ?_⟩, .inr ⟨nx' + 1, (nx' + 1, 106), by rw [e3], by omega, ?_, ?_⟩, rfl, rfl⟩
            · omega
            · rw [hRR, e2]
              simp (disch := omega) only [go_sem, ↓IntWalk.iteOmega, IntWalk.toNatUp, Nat.reduceEqDiff, Nat.reduceAdd, Nat.reduceMul, Nat.reduceSub, Nat.reduceLT, Nat.reduceLeDiff, Int.reduceToNat, Int.reduceLT, Int.reduceLE, Int.reduceEq, Int.reduceAdd, Int.reduceSub, Int.reduceMul, Int.toNat_natCast, reduceCtorEq, decide_true, decide_false, IntWalk.i64_in, IntWalk.u64_in, IntWalk.u8_in]
            · rw [cI_length, natI_length, List.length_append, hRl, hrl]; omega
            · rw [hLi, hacs, cB_app, e4]
              simp (disch := omega) only [go_sem, ↓IntWalk.iteOmega, IntWalk.toNatUp, Nat.reduceEqDiff, Nat.reduceAdd, Nat.reduceMul, Nat.reduceSub, Nat.reduceLT, Nat.reduceLeDiff, Int.reduceToNat, Int.reduceLT, Int.reduceLE, Int.reduceEq, Int.reduceAdd, Int.reduceSub, Int.reduceMul, Int.toNat_natCast, reduceCtorEq, decide_true, decide_false, IntWalk.i64_in, IntWalk.u64_in, IntWalk.u8_in]
              rfl
            · rw [cB_length, accS_length, List.length_take]; omega
          · simp (disch := omega) only [go_sem, ↓IntWalk.iteOmega, IntWalk.toNatUp, Nat.reduceEqDiff, Nat.reduceAdd, Nat.reduceMul, Nat.reduceSub, Nat.reduceLT, Nat.reduceLeDiff, Int.reduceToNat, Int.reduceLT, Int.reduceLE, Int.reduceEq, Int.reduceAdd, Int.reduceSub, Int.reduceMul, Int.toNat_natCast, reduceCtorEq, decide_true, decide_false, IntWalk.i64_in, IntWalk.u64_in, IntWalk.u8_in, nzSub, h1, h4, h5, h6, h9, h10, h11, h63, ho11, ho9', ho4', ho20, ho17, hro6, hro7, hget, hacc, hdec, natI_length, accS_length, List.length_take, hro9, htkA]
            refine ⟨_, ?_, i + 1, L', R ++ R', q9, _, _, hB', rfl, by omega, by omega, hcap, by rw [List.length_append, hRl, hrl]; omega, hrN, hSub.slot (fun j k a1 a2 a3 a4 a5 a6 => by simp [upd_app, a1, a2, a3, a4, a5, a6]) (by omega), by omega, by rw [if_pos rfl], .inr ⟨nx' + 1, (nx' + 1, 93), by rw [e1], by omega, ?_, ?_⟩, .inr ⟨i9, (nx' + 1, 106), rfl, by omega, ?_, ?_⟩, rfl, rfl⟩
            · omega
            · rw [hRR, e2]
              simp (disch := omega) only [go_sem, ↓IntWalk.iteOmega, IntWalk.toNatUp, Nat.reduceEqDiff, Nat.reduceAdd, Nat.reduceMul, Nat.reduceSub, Nat.reduceLT, Nat.reduceLeDiff, Int.reduceToNat, Int.reduceLT, Int.reduceLE, Int.reduceEq, Int.reduceAdd, Int.reduceSub, Int.reduceMul, Int.toNat_natCast, reduceCtorEq, decide_true, decide_false, IntWalk.i64_in, IntWalk.u64_in, IntWalk.u8_in]
            · rw [cI_length, natI_length, List.length_append, hRl, hrl]; omega
            · rw [hLi, hacs, cB_app]
              simp (disch := omega) only [go_sem, ↓IntWalk.iteOmega, IntWalk.toNatUp, Nat.reduceEqDiff, Nat.reduceAdd, Nat.reduceMul, Nat.reduceSub, Nat.reduceLT, Nat.reduceLeDiff, Int.reduceToNat, Int.reduceLT, Int.reduceLE, Int.reduceEq, Int.reduceAdd, Int.reduceSub, Int.reduceMul, Int.toNat_natCast, reduceCtorEq, decide_true, decide_false, IntWalk.i64_in, IntWalk.u64_in, IntWalk.u8_in]
              rfl
            · rw [cB_length, accS_length, List.length_take]; omega
        · rcases hvA' with ⟨rfl, e3, e4⟩ | ⟨i9, g9, rfl, hi9, hro9, hl9⟩
          · simp (disch := omega) only [go_sem, ↓IntWalk.iteOmega, IntWalk.toNatUp, Nat.reduceEqDiff, Nat.reduceAdd, Nat.reduceMul, Nat.reduceSub, Nat.reduceLT, Nat.reduceLeDiff, Int.reduceToNat, Int.reduceLT, Int.reduceLE, Int.reduceEq, Int.reduceAdd, Int.reduceSub, Int.reduceMul, Int.toNat_natCast, reduceCtorEq, decide_true, decide_false, IntWalk.i64_in, IntWalk.u64_in, IntWalk.u8_in, nzSub, h1, h4, h5, h6, h9, h10, h11, h63, ho11, ho9', ho4', ho20, ho17, hro6, hro7, hget, hacc, hdec, natI_length, accS_length, List.length_take, hro8, htkR]
            refine ⟨_, ?_, i + 1, L', R ++ R', q9, _, _, hB', rfl, by omega, by omega, hcap, by rw [List.length_append, hRl, hrl]; omega, hrN, hSub.slot (fun j k a1 a2 a3 a4 a5 a6 => by simp [upd_app, a1, a2, a3, a4, a5, a6]) (by omega), by omega, by rw [if_pos rfl], .inr ⟨i8, (nx' + 1, 93), rfl, by omega, ?_, ?_⟩, .inr ⟨nx' + 1, (nx' + 1, 106), by rw [e3], by omega, ?_, ?_⟩, rfl, rfl⟩
            · omega
            · rw [hRR]
              simp (disch := omega) only [go_sem, ↓IntWalk.iteOmega, IntWalk.toNatUp, Nat.reduceEqDiff, Nat.reduceAdd, Nat.reduceMul, Nat.reduceSub, Nat.reduceLT, Nat.reduceLeDiff, Int.reduceToNat, Int.reduceLT, Int.reduceLE, Int.reduceEq, Int.reduceAdd, Int.reduceSub, Int.reduceMul, Int.toNat_natCast, reduceCtorEq, decide_true, decide_false, IntWalk.i64_in, IntWalk.u64_in, IntWalk.u8_in]
            · rw [cI_length, natI_length, List.length_append, hRl, hrl]; omega
            · rw [hLi, hacs, cB_app, e4]
              simp (disch := omega) only [go_sem, ↓IntWalk.iteOmega, IntWalk.toNatUp, Nat.reduceEqDiff, Nat.reduceAdd, Nat.reduceMul, Nat.reduceSub, Nat.reduceLT, Nat.reduceLeDiff, Int.reduceToNat, Int.reduceLT, Int.reduceLE, Int.reduceEq, Int.reduceAdd, Int.reduceSub, Int.reduceMul, Int.toNat_natCast, reduceCtorEq, decide_true, decide_false, IntWalk.i64_in, IntWalk.u64_in, IntWalk.u8_in]
              rfl
            · rw [cB_length, accS_length, List.length_take]; omega
          · simp (disch := omega) only [go_sem, ↓IntWalk.iteOmega, IntWalk.toNatUp, Nat.reduceEqDiff, Nat.reduceAdd, Nat.reduceMul, Nat.reduceSub, Nat.reduceLT, Nat.reduceLeDiff, Int.reduceToNat, Int.reduceLT, Int.reduceLE, Int.reduceEq, Int.reduceAdd, Int.reduceSub, Int.reduceMul, Int.toNat_natCast, reduceCtorEq, decide_true, decide_false, IntWalk.i64_in, IntWalk.u64_in, IntWalk.u8_in, nzSub, h1, h4, h5, h6, h9, h10, h11, h63, ho11, ho9', ho4', ho20, ho17, hro6, hro7, hget, hacc, hdec, natI_length, accS_length, List.length_take, hro8, htkR, hro9, htkA]
            refine ⟨_, ?_, i + 1, L', R ++ R', q9, _, _, hB', rfl, by omega, by omega, hcap, by rw [List.length_append, hRl, hrl]; omega, hrN, hSub.slot (fun j k a1 a2 a3 a4 a5 a6 => by simp [upd_app, a1, a2, a3, a4, a5, a6]) (by omega), by omega, by rw [if_pos rfl], .inr ⟨i8, (nx' + 1, 93), rfl, by omega, ?_, ?_⟩, .inr ⟨i9, (nx' + 1, 106), rfl, by omega, ?_, ?_⟩, rfl, rfl⟩
            · omega
            · rw [hRR]
              simp (disch := omega) only [go_sem, ↓IntWalk.iteOmega, IntWalk.toNatUp, Nat.reduceEqDiff, Nat.reduceAdd, Nat.reduceMul, Nat.reduceSub, Nat.reduceLT, Nat.reduceLeDiff, Int.reduceToNat, Int.reduceLT, Int.reduceLE, Int.reduceEq, Int.reduceAdd, Int.reduceSub, Int.reduceMul, Int.toNat_natCast, reduceCtorEq, decide_true, decide_false, IntWalk.i64_in, IntWalk.u64_in, IntWalk.u8_in]
            · rw [cI_length, natI_length, List.length_append, hRl, hrl]; omega
            · rw [hLi, hacs, cB_app]
              simp (disch := omega) only [go_sem, ↓IntWalk.iteOmega, IntWalk.toNatUp, Nat.reduceEqDiff, Nat.reduceAdd, Nat.reduceMul, Nat.reduceSub, Nat.reduceLT, Nat.reduceLeDiff, Int.reduceToNat, Int.reduceLT, Int.reduceLE, Int.reduceEq, Int.reduceAdd, Int.reduceSub, Int.reduceMul, Int.toNat_natCast, reduceCtorEq, decide_true, decide_false, IntWalk.i64_in, IntWalk.u64_in, IntWalk.u8_in]
              rfl
            · rw [cB_length, accS_length, List.length_take]; omega
    · have hie : i = L.length := by omega
      subst hie
      rcases hLs with ⟨rfl, e, _⟩ | ⟨i5, g5, rfl, hi5, hro5, hl5⟩
      · omega
      rcases hvN with ⟨_, e, _⟩ | ⟨i8, g8, rfl, hi8, hro8, hl8⟩
      · omega
      rcases hvA with ⟨_, e, _⟩ | ⟨i9, g9, rfl, hi9, hro9, hl9⟩
      · omega
      rw [List.take_length] at hro9 hl9
      have hRn : (natI R).length = L.length * 5 := by rw [natI_length]; exact hRl
      have htkR : (cI (natI R)).take (L.length * 5) = cI (natI R) := take_len (by rw [cI_length]; exact hRn)
      have hAn : (accS F L).length = L.length := accS_length F L
      have htkA : (cB (accS F L)).take L.length = cB (accS F L) := take_len (by rw [cB_length]; exact hAn)
      have hz5 : (rep [AV.int .i64 0, .int .i64 0, .int .i64 0, .int .i64 0, .int .i64 0] L.length).length = L.length * 5 := by
        rw [rep_flat]; simp
      have hzA : (cB (List.replicate L.length false)).drop L.length = [] := by simp [cB]
      have hz6 : (rep [AV.int .i64 0, .int .i64 0, .int .i64 0, .int .i64 0, .int .i64 0] L.length).drop (L.length * 5) = [] := List.drop_of_length_le (by omega)
      have hfin : subM N S ss fs cap = some (L, R) := by
        rw [← hB, show 1002 - L.length = (1001 - L.length) + 1 by omega, bfsS_succ, List.getElem?_eq_none (Nat.le_refl _)]
      rw [hfin]
      simp (disch := omega) only [go_sem, ↓IntWalk.iteOmega, IntWalk.toNatUp, Nat.reduceEqDiff, Nat.reduceAdd, Nat.reduceMul, Nat.reduceSub, Nat.reduceLT, Nat.reduceLeDiff, Int.reduceToNat, Int.reduceLT, Int.reduceLE, Int.reduceEq, Int.reduceAdd, Int.reduceSub, Int.reduceMul, Int.toNat_natCast, reduceCtorEq, decide_true, decide_false, IntWalk.i64_in, IntWalk.u64_in, IntWalk.u8_in, nzSub, h1, h4, h5, h6, h9, h10, ho20, ho9, ho4, hro8, hro9, hRn, htkR, hAn, htkA, hz5, hzA, hz6, rep_bool]
      show _ = AV.tup [.agg [.sl L.length (cI (natI R)), .sl (accS F L).length (cB (accS F L))], .int .i64 0]
      rw [accS_length]
theorem sub_ok (N : Nat) (S F : Int) (ss fs) (hN : N ≤ 1000) (hw : Wf N S F ss fs) (hss : ss.length ≤ 1000) (cap : Nat) (hc1 : 1 ≤ cap) (hc2 : cap ≤ 1000) : Ok Tryd.prog 21 [nfaV N S F ss fs, .int .i64 cap] (subV F (subM N S ss fs cap)) := by
  refine ok_of_WP (E := EX md0 XSub) (cr := crSub) XSub_ok crSub_ok mixed (k := 1003) Tryd.func21 (lookSub _) rfl (WP_mono (sub_wp N S F ss fs hN hw hss cap hc1 hc2) ?_)
  rintro u a o nx ⟨rfl, h⟩
  refine ⟨.inr rfl, ?_⟩
  simp only [Tryd.f21, resultsL_cons, resultsL_nil, result1_cell, result1_tmp]
  cases hl : aLoad Tryd.prog 25 (a 4) ⟨o, nx⟩ with
  | none =>
    rw [hl] at h
    cases hm : subM N S ss fs cap with
    | none =>
      rw [hm] at h
      change AV.tup [AV.und, view o 1011 (a 5)] = _ at h
      simp [subV, noneV] at h
    | some p =>
      rw [hm] at h
      change AV.tup [AV.und, view o 1011 (a 5)] = _ at h
      simp [subV, dfaV] at h
  | some v =>
    rw [hl] at h
    rw [show aLoad (EX md0 XSub).P 25 (a 4) ⟨o, nx⟩ = some v from hl]
    exact h
end Go.Proofs.YthhfjjnhkifbfaaDoor.A
/- Machines of one way out of machines of many: what is told of them, and where a word leads. -/
namespace Go.Proofs.YthhfjjnhkifbfaaDoor.A
open Go
set_option maxRecDepth 20000
theorem subM_mid {N : Nat} {S : Int} {ss fs} {cap : Nat} {L : List (List Bool)} {R : List Nat} (h : subM N S ss fs cap = some (L, R)) : MidS (fS N ss fs) (t0S N S fs) L.length L R ∧ ∀ b ∈ L, b.length = N :=
  ⟨bfsS_mid (MidS.start _) h, bfsS_all (fun b => b.length = N) (fun x m _ => fS_length N ss fs x m) (fun y hy => by rw [List.mem_singleton.1 hy]; exact t0S_length N S fs) h⟩
theorem subM_pos {N : Nat} {S : Int} {ss fs} {cap : Nat} {L : List (List Bool)} {R : List Nat} (h : subM N S ss fs cap = some (L, R)) : 1 ≤ L.length := by
  have := (subM_mid h).1.head
  exact (List.getElem?_eq_some_iff.1 this).1
theorem subM_wf {N : Nat} {S F : Int} {ss fs} {cap : Nat} {L : List (List Bool)} {R : List Nat} (h : subM N S ss fs cap = some (L, R)) (hL : L.length ≤ 1000) : WfD L.length (natI R) (accS F L) := by
  have hm := (subM_mid h).1
  have hp := subM_pos h
  have hR := hm.len
  refine ⟨⟨hp, by omega⟩, by rw [natI_length]; omega, accS_length F L, fun y hy => ?_⟩
  obtain ⟨q0, hq0, rfl⟩ := List.mem_map.1 hy
  obtain ⟨k, hk, hke⟩ := List.getElem_of_mem hq0
  obtain ⟨x, q, h1, h2, h3⟩ := hm.leads (k / 5) (k % 5) (by omega) (by omega)
  rw [show 5 * (k / 5) + k % 5 = k by omega] at h2
  have hq := (List.getElem?_eq_some_iff.1 h3).1
  rw [List.getElem?_eq_getElem hk, hke] at h2
  injection h2 with h2
  subst h2
  show 0 ≤ (q0 : Int) ∧ (q0 : Int) < _
  omega
def RSubC (args : List AV) (r : AV) : Prop := ∃ (N : Nat) (S F : Int) (ss : List St3) (fs : List (Int × Int)) (cap : Nat), N ≤ 1000 ∧ Wf N S F ss fs ∧ ss.length ≤ 1000 ∧ 1 ≤ cap ∧ cap ≤ 1000 ∧ args = [nfaV N S F ss fs, .int .i64 cap] ∧ r = subV F (subM N S ss fs cap)
theorem RSubC_fn : Fun1 RSubC := by
  rintro args r r' ⟨N, S, F, ss, fs, cap, _, _, _, _, _, rfl, rfl⟩ ⟨N', S', F', ss', fs', cap', _, _, _, _, _, h, rfl⟩
  simp only [List.cons.injEq, AV.int.injEq, true_and, and_true] at h
  obtain ⟨h0, h1⟩ := h
  obtain ⟨e1, e2, e3, e4, e5⟩ := nfaV_inj h0
  have e1 : N = N' := by omega
  have e6 : cap = cap' := by omega
  rw [e1, e2, e3, e4, e5, e6]
theorem RSubC_dfa (args r) (h : RSubC args r) : Ok Tryd.prog 21 args r := by obtain ⟨N, S, F, ss, fs, cap, h1, h2, h3, h4, h5, rfl, rfl⟩ := h; exact sub_ok N S F ss fs h1 h2 h3 cap h4 h5
def RRun6 (args : List AV) (r : AV) : Prop := ∃ (N : Nat) (S F : Int) (ss : List (Int × Int × Int)) (fs : List (Int × Int)) (w : List Int), Wf N S F ss fs ∧ w.length ≤ 1000000 ∧ args = [nfaV N S F ss fs, slI w] ∧ r = .bool (runB N S F ss fs w)
theorem RRun6_fn : Fun1 RRun6 := by
  rintro args r r' ⟨N, S, F, ss, fs, w, _, _, rfl, rfl⟩ ⟨N', S', F', ss', fs', w', _, _, h, rfl⟩
  simp only [List.cons.injEq, and_true] at h
  obtain ⟨h1, h2, h3, h4, h5⟩ := nfaV_inj h.1
  have h1 : N = N' := by omega
  rw [h1, h2, h3, h4, h5, slI_inj h.2]
theorem RRun6_ok (args r) (h : RRun6 args r) : Ok Tryd.prog 28 args r := by obtain ⟨N, S, F, ss, fs, w, h1, h2, rfl, rfl⟩ := h; exact refRun_ok N S F ss fs h1 w h2
def RChk7 (args : List AV) (r : AV) : Prop := ∃ (n : Nat) (N : List Int) (A : List Bool), WfD n N A ∧ args = [dfaV n N A] ∧ r = .bool true
theorem RChk7_fn : Fun1 RChk7 := by rintro args r r' ⟨_, _, _, _, _, rfl⟩ ⟨_, _, _, _, _, rfl⟩; rfl
theorem chkD_wf {n N A} (h : WfD n N A) : chkD n N A = true := by
  unfold chkD
  rw [decide_eq_true ⟨h.sz.1, h.sz.2, h.a⟩, Bool.true_and]
  exact List.all_eq_true.2 fun x hx => decide_eq_true (h.e x hx)
theorem RChk7_ok (args r) (h : RChk7 args r) : Ok Tryd.prog 12 args r := by
  obtain ⟨n, N, A, h1, rfl, rfl⟩ := h
  have := dchk_ok n N A h1.l
  rwa [chkD_wf h1] at this
theorem natI_get {R : List Nat} {k q : Nat} (h : R[k]? = some q) : (natI R).getD k 0 = (q : Int) := by
  unfold natI
  simp only [List.getD, List.getElem?_map, h]
  rfl
theorem goD_set {N : Nat} {S : Int} {ss fs} {cap : Nat} {L : List (List Bool)} {R : List Nat} (h : subM N S ss fs cap = some (L, R)) : ∀ (w : List Int) (s : Nat) (b : List Bool), (∀ x ∈ w, 0 ≤ x ∧ x < 5) → L[s]? = some b → ∃ k : Nat, goD (natI R) (s : Int) w = (k : Int) ∧ L[k]? = some (w.foldl (stepB N (rowsOf N fs) ss) b)
  | [], s, b, _, hs => ⟨s, rfl, hs⟩
  | m :: w, s, b, hw, hs => by
    have hm := hw m (List.mem_cons_self ..)
    obtain ⟨j, rfl⟩ := Int.eq_ofNat_of_zero_le hm.1
    have hlt := (List.getElem?_eq_some_iff.1 hs).1
    obtain ⟨x, q, h1, h2, h3⟩ := (subM_mid h).1.leads s j hlt (by omega)
    rw [hs] at h1
    injection h1 with h1
    subst h1
    obtain ⟨k, e1, e2⟩ := goD_set h w q _ (fun x hx => hw x (List.mem_cons_of_mem _ hx)) h3
    refine ⟨k, ?_, e2⟩
    rw [goD, if_neg (by omega), ← e1]
    have : ((s : Int)).toNat * 5 + ((j : Int)).toNat = 5 * s + j := by omega
    rw [this, natI_get h2]
theorem go_set {N : Nat} {S F : Int} {ss fs} {cap : Nat} {L : List (List Bool)} {R : List Nat} (h : subM N S ss fs cap = some (L, R)) (w : List Int) (hw : ∀ x ∈ w, 0 ≤ x ∧ x < 5) : ∃ k : Nat, goFull L.length (natI R) 0 w = (k : Int) ∧ k < L.length ∧ (accS F L).getD k false = runB N S F ss fs w := by
  have hp := subM_pos h
  obtain ⟨k, h1, h2⟩ := goD_set h w 0 _ hw (subM_mid h).1.head
  refine ⟨k, ?_, (List.getElem?_eq_some_iff.1 h2).1, ?_⟩
  · unfold goFull
    rw [if_pos (by omega)]
    exact h1
  · unfold accS runB setB
    simp only [List.getD, List.getElem?_map, h2]
    rfl
end Go.Proofs.YthhfjjnhkifbfaaDoor.A
namespace Go.Proofs.YthhfjjnhkifbfaaDoor.A
open Go
set_option maxRecDepth 20000
def TFew (args : List AV) (r : AV) : Prop := ∃ l, args = [slR l] ∧ r = .bool (fewR l)
theorem TFew_fn : Fun1 TFew := by
  rintro args r r' ⟨x, rfl, rfl⟩ ⟨x', h, rfl⟩
  simp only [List.cons.injEq, AV.sl.injEq, and_true] at h
  rw [cRws_inj h.2]
def TOne (args : List AV) (r : AV) : Prop := ∃ l, args = [slR l] ∧ r = nodeV (oneN l)
theorem TOne_fn : Fun1 TOne := by
  rintro args r r' ⟨x, rfl, rfl⟩ ⟨x', h, rfl⟩
  simp only [List.cons.injEq, AV.sl.injEq, and_true] at h
  rw [cRws_inj h.2]
def TBldQ (args : List AV) (r : AV) : Prop := ∃ x, okQ x = true ∧ args = [nodeV x] ∧ r = builtV (bPart x b0)
theorem TBldQ_fn : Fun1 TBldQ := by
  rintro args r r' ⟨x, _, rfl, rfl⟩ ⟨x', _, h, rfl⟩
  simp only [List.cons.injEq, AV.agg.injEq, and_true] at h
  rw [cNd_inj h]
def TMat (args : List AV) (r : AV) : Prop := ∃ (n : Nd) (w : List Int), rightN n = true ∧ wideN n = true ∧ w.length ≤ 1000000 ∧ args = [nodeV n, slI w] ∧ r = .bool (matchN n w)
theorem TMat_fn : Fun1 TMat := by
  rintro args r r' ⟨n, w, _, _, _, rfl, rfl⟩ ⟨n', w', _, _, _, h, rfl⟩
  simp only [List.cons.injEq, AV.agg.injEq, AV.sl.injEq, and_true] at h
  rw [cNd_inj h.1, cI_inj h.2.2]
noncomputable def XDT : FuncId → List AV → Option AV := tabLook [(9, tRel RKn7), (24, tRel TFew), (25, tRel TOne), (26, tRel TBldQ), (21, tRel RSubC), (15, tRel RWord), (18, tRel RRunD), (28, tRel RRun6), (27, tRel TMat), (12, tRel RChk7)]
theorem XDT_ok : CPSound Tryd.prog XDT := tab_cons (tab_cons (tab_cons (tab_cons (tab_cons (tab_cons (tab_cons (tab_cons (tab_cons (tab_cons (tab_nil _) (tRel_ok RChk7_ok)) (tRel_ok (fun args r h => by obtain ⟨n, w, h1, h2, h3, rfl, rfl⟩ := h; exact match_ok n w h1 h2 h3))) (tRel_ok RRun6_ok)) (tRel_ok RRunD_dfa)) (tRel_ok RWord_ok)) (tRel_ok RSubC_dfa)) (tRel_ok (fun args r h => by obtain ⟨x, h1, rfl, rfl⟩ := h; exact refBuild_ok h1))) (tRel_ok (fun args r h => by obtain ⟨l, rfl, rfl⟩ := h; exact one_ok l))) (tRel_ok (fun args r h => by obtain ⟨l, rfl, rfl⟩ := h; exact few4_ok l))) (tRel_ok RKn7_ok)
theorem XDT_word (ns : List Int) (k : Nat) (few : Int) (hk : k ≤ 1000) : XDT 15 [slI ns, .int .i64 k, .int .i64 few] = some (slI (wordOf ns k few)) := tRel_eq (R := RWord) RWord_fn ⟨ns, k, few, ⟨by omega, by omega⟩, rfl, rfl⟩
theorem wordOf_in5 (ns : List Int) (most few : Int) : ∀ x ∈ wordOf ns most few, 0 ≤ x ∧ x < 5 := by
  intro x hx
  rw [wordOf, List.mem_map] at hx
  obtain ⟨y, _, rfl⟩ := hx
  have h1 := Int.emod_nonneg few (show (5 : Int) ≠ 0 by decide)
  have h2 := Int.emod_lt_of_pos few (show (0 : Int) < 5 by decide)
  have h3 := Int.emod_nonneg y (show (1 + few % 5 : Int) ≠ 0 by omega)
  have h4 := Int.emod_lt_of_pos y (show (0 : Int) < 1 + few % 5 by omega)
  omega
theorem lookDTakes (X) : lookedAt (EX md0 X) (fun _ => none) 3 Tryd.f6 = true := by kernel_rfl
theorem dtakes_ok (l : List Rw) (ns : List Int) (few : Int) : Ok Tryd.prog 6 [slR l, slI ns, .int .i64 few] (.bool true) := by
  refine ok_of_WP (E := EX md0 XDT) (cr := noR) XDT_ok (noR_ok _) mixed (k := 20) Tryd.func6 (lookDTakes _) rfl ?_
  have hkn : XDT 9 [] = some (.bool true) := tRel_eq (R := RKn7) RKn7_fn ⟨rfl, rfl⟩
  have hfw : XDT 24 [slR l] = some (.bool (fewR l)) := tRel_eq (R := TFew) TFew_fn ⟨_, rfl, rfl⟩
  have hon : XDT 25 [slR l] = some (nodeV (oneN l)) := tRel_eq (R := TOne) TOne_fn ⟨_, rfl, rfl⟩
  have hword := XDT_word ns
  simp only [Tryd.f6, Option.getD_some]
  by_cases hf : fewR l = true
  · obtain ⟨t1, t2, t3⟩ := oneN_ok hf
    obtain ⟨r1, r2, _⟩ := oneN_okR hf
    have r2 := slim_wide _ r2
    have hnb : XDT 26 [nodeV (oneN l)] = some (builtV (bPart (oneN l) b0)) := tRel_eq (R := TBldQ) TBldQ_fn ⟨_, t1, rfl, rfl⟩
    have hmat : ∀ w : List Int, w.length ≤ 1000000 → XDT 27 [nodeV (oneN l), slI w] = some (.bool (matchN (oneN l) w)) := fun w hw => tRel_eq (R := TMat) TMat_fn ⟨_, _, r1, r2, hw, rfl, rfl⟩
    rw [hf] at hfw
    by_cases hn : (bPart (oneN l) b0).2.n > 1000
    · have e : builtV (bPart (oneN l) b0) = .tup [nfaV 0 0 0 [] [], .int .i64 4] := if_pos hn
      rw [e] at hnb
      generalize oneN l = x at *
      obtain ⟨k, s, lo, hi, c⟩ := x
      simp only [nodeV, cNd_mk] at hon hnb
      simp (disch := omega) only [go_sem, ↓IntWalk.iteOmega, IntWalk.toNatUp, Nat.reduceEqDiff, Nat.reduceAdd, Nat.reduceMul, Nat.reduceSub, Nat.reduceLT, Nat.reduceLeDiff, Int.reduceToNat, Int.reduceLT, Int.reduceLE, Int.reduceEq, Int.reduceAdd, Int.reduceSub, Int.reduceMul, Int.toNat_natCast, reduceCtorEq, decide_true, decide_false, IntWalk.i64_in, IntWalk.u64_in, IntWalk.u8_in, hkn, hfw, hon, hnb]
    · have e : builtV (bPart (oneN l) b0) = .tup [nfaV (bPart (oneN l) b0).2.n (bPart (oneN l) b0).1.1 (bPart (oneN l) b0).1.2 (bPart (oneN l) b0).2.s (bPart (oneN l) b0).2.f, .int .i64 0] := if_neg hn
      rw [e] at hnb
      obtain ⟨hw, hss⟩ := built_wf (okQ_N _ t1) t2 (by omega)
      have hrm := run_Mt r1 (show (bPart (oneN l) ⟨0, [], []⟩).2.n ≤ 1000 by show (bPart (oneN l) b0).2.n ≤ 1000; omega) hw
      have hrb : ∀ w, runB (bPart (oneN l) b0).2.n (bPart (oneN l) b0).1.1 (bPart (oneN l) b0).1.2 (bPart (oneN l) b0).2.s (bPart (oneN l) b0).2.f w = matchN (oneN l) w := fun w => by
        classical
        rw [Bool.eq_iff_iff, matchN, decide_eq_true_eq]
        exact hrm w
      clear hrm e t1 t2 t3
      generalize (bPart (oneN l) b0).2.n = N at *
      generalize (bPart (oneN l) b0).1.1 = S at *
      generalize (bPart (oneN l) b0).1.2 = F at *
      generalize (bPart (oneN l) b0).2.s = ss at *
      generalize (bPart (oneN l) b0).2.f = fs at *
      have hs1 : XDT 21 [nfaV N S F ss fs, .int .i64 400] = some (subV F (subM N S ss fs 400)) := tRel_eq (R := RSubC) RSubC_fn ⟨_, _, _, _, _, 400, by omega, hw, hss, by omega, by omega, rfl, rfl⟩
      have hnr : ∀ w : List Int, w.length ≤ 1000000 → XDT 28 [nfaV N S F ss fs, slI w] = some (.bool (matchN (oneN l) w)) := fun w hlw => by
        rw [← hrb w]
        exact tRel_eq (R := RRun6) RRun6_fn ⟨_, _, _, _, _, _, hw, hlw, rfl, rfl⟩
      generalize oneN l = x at *
      generalize matchN x = mt at *
      obtain ⟨kk, s, lo, hi, c⟩ := x
      simp only [nodeV, cNd_mk] at hon hnb hmat
      cases hm : subM N S ss fs 400 with
      | none =>
        rw [hm] at hs1
        change _ = some (AV.tup [.agg [.sl 0 [], .sl 0 []], .int .i64 5]) at hs1
        simp (disch := omega) only [go_sem, ↓IntWalk.iteOmega, IntWalk.toNatUp, Nat.reduceEqDiff, Nat.reduceAdd, Nat.reduceMul, Nat.reduceSub, Nat.reduceLT, Nat.reduceLeDiff, Int.reduceToNat, Int.reduceLT, Int.reduceLE, Int.reduceEq, Int.reduceAdd, Int.reduceSub, Int.reduceMul, Int.toNat_natCast, reduceCtorEq, decide_true, decide_false, IntWalk.i64_in, IntWalk.u64_in, IntWalk.u8_in, hkn, hfw, hon, hnb, hs1]
      | some p =>
        obtain ⟨L, R⟩ := p
        rw [hm] at hs1
        change _ = some (AV.tup [dfaV L.length (natI R) (accS F L), .int .i64 0]) at hs1
        have hL : L.length ≤ 400 := (bfsS_cap (by simp) hm).2.1
        have hwd := subM_wf (F := F) hm (by omega)
        have hset := go_set (F := F) hm
        have hchk : XDT 12 [dfaV L.length (natI R) (accS F L)] = some (.bool true) := tRel_eq (R := RChk7) RChk7_fn ⟨_, _, _, hwd, rfl, rfl⟩
        have hdr : ∀ w : List Int, w.length ≤ 1000000 → (∀ y ∈ w, 0 ≤ y ∧ y < 5) → XDT 18 [dfaV L.length (natI R) (accS F L), slI w] = some (.bool (mt w)) := fun w hlw hw5 => by
          obtain ⟨k, g1, g2, g3⟩ := hset w hw5
          have e : runD L.length (natI R) (accS F L) w = mt w := by
            rw [← hrb w]
            unfold runD
            rw [g1, if_pos (by omega), Int.toNat_natCast, g3]
          rw [← e]
          exact tRel_eq (R := RRunD) RRunD_fn ⟨_, _, _, _, hwd, hlw, rfl, rfl⟩
        clear hset hrb hwd
        simp (disch := omega) only [go_sem, ↓IntWalk.iteOmega, IntWalk.toNatUp, Nat.reduceEqDiff, Nat.reduceAdd, Nat.reduceMul, Nat.reduceSub, Nat.reduceLT, Nat.reduceLeDiff, Int.reduceToNat, Int.reduceLT, Int.reduceLE, Int.reduceEq, Int.reduceAdd, Int.reduceSub, Int.reduceMul, Int.toNat_natCast, reduceCtorEq, decide_true, decide_false, IntWalk.i64_in, IntWalk.u64_in, IntWalk.u8_in, hkn, hfw, hon, hnb, hs1]
        refine WP_loop (fun m a o nx => ∃ k : Nat, k ≤ 10 ∧ m = 10 - k ∧ a 1 = slI ns ∧ a 2 = .int .i64 few ∧ a 7 = .ptr (3, 7) (3, 7) 0 ∧ a 8 = .ptr (4, 8) (4, 8) 0 ∧ a 10 = .ptr (6, 10) (6, 10) 0 ∧ a 12 = .int .i64 k ∧ o (3, 7) = some (.row ⟨54, 1, (3, 7), false, true, [.int .i64 kk, .int .i64 s, .int .i64 lo, .int .i64 hi, slN c]⟩) ∧ o (4, 8) = some (.row ⟨41, 1, (4, 8), false, true, [.int .i64 N, .int .i64 S, .int .i64 F, .sl ss.length (cS ss), .sl fs.length (cP fs)]⟩) ∧ o (6, 10) = some (.row ⟨25, 1, (6, 10), false, true, [.sl L.length (cI (natI R)), slB (accS F L)]⟩)) 10 (by omega) ⟨0, by omega, by omega, by simp (disch := omega) only [go_sem, ↓IntWalk.iteOmega, IntWalk.toNatUp, Nat.reduceEqDiff, Nat.reduceAdd, Nat.reduceMul, Nat.reduceSub, Nat.reduceLT, Nat.reduceLeDiff, Int.reduceToNat, Int.reduceLT, Int.reduceLE, Int.reduceEq, Int.reduceAdd, Int.reduceSub, Int.reduceMul, Int.toNat_natCast, reduceCtorEq, decide_true, decide_false, IntWalk.i64_in, IntWalk.u64_in, IntWalk.u8_in], by simp (disch := omega) only [go_sem, ↓IntWalk.iteOmega, IntWalk.toNatUp, Nat.reduceEqDiff, Nat.reduceAdd, Nat.reduceMul, Nat.reduceSub, Nat.reduceLT, Nat.reduceLeDiff, Int.reduceToNat, Int.reduceLT, Int.reduceLE, Int.reduceEq, Int.reduceAdd, Int.reduceSub, Int.reduceMul, Int.toNat_natCast, reduceCtorEq, decide_true, decide_false, IntWalk.i64_in, IntWalk.u64_in, IntWalk.u8_in], by simp (disch := omega) only [go_sem, ↓IntWalk.iteOmega, IntWalk.toNatUp, Nat.reduceEqDiff, Nat.reduceAdd, Nat.reduceMul, Nat.reduceSub, Nat.reduceLT, Nat.reduceLeDiff, Int.reduceToNat, Int.reduceLT, Int.reduceLE, Int.reduceEq, Int.reduceAdd, Int.reduceSub, Int.reduceMul, Int.toNat_natCast, reduceCtorEq, decide_true, decide_false, IntWalk.i64_in, IntWalk.u64_in, IntWalk.u8_in], by simp (disch := omega) only [go_sem, ↓IntWalk.iteOmega, IntWalk.toNatUp, Nat.reduceEqDiff, Nat.reduceAdd, Nat.reduceMul, Nat.reduceSub, Nat.reduceLT, Nat.reduceLeDiff, Int.reduceToNat, Int.reduceLT, Int.reduceLE, Int.reduceEq, Int.reduceAdd, Int.reduceSub, Int.reduceMul, Int.toNat_natCast, reduceCtorEq, decide_true, decide_false, IntWalk.i64_in, IntWalk.u64_in, IntWalk.u8_in], by simp (disch := omega) only [go_sem, ↓IntWalk.iteOmega, IntWalk.toNatUp, Nat.reduceEqDiff, Nat.reduceAdd, Nat.reduceMul, Nat.reduceSub, Nat.reduceLT, Nat.reduceLeDiff, Int.reduceToNat, Int.reduceLT, Int.reduceLE, Int.reduceEq, Int.reduceAdd, Int.reduceSub, Int.reduceMul, Int.toNat_natCast, reduceCtorEq, decide_true, decide_false, IntWalk.i64_in, IntWalk.u64_in, IntWalk.u8_in], by simp (disch := omega) only [go_sem, ↓IntWalk.iteOmega, IntWalk.toNatUp, Nat.reduceEqDiff, Nat.reduceAdd, Nat.reduceMul, Nat.reduceSub, Nat.reduceLT, Nat.reduceLeDiff, Int.reduceToNat, Int.reduceLT, Int.reduceLE, Int.reduceEq, Int.reduceAdd, Int.reduceSub, Int.reduceMul, Int.toNat_natCast, reduceCtorEq, decide_true, decide_false, IntWalk.i64_in, IntWalk.u64_in, IntWalk.u8_in], by simp (disch := omega) only [go_sem, ↓IntWalk.iteOmega, IntWalk.toNatUp, Nat.reduceEqDiff, Nat.reduceAdd, Nat.reduceMul, Nat.reduceSub, Nat.reduceLT, Nat.reduceLeDiff, Int.reduceToNat, Int.reduceLT, Int.reduceLE, Int.reduceEq, Int.reduceAdd, Int.reduceSub, Int.reduceMul, Int.toNat_natCast, reduceCtorEq, decide_true, decide_false, IntWalk.i64_in, IntWalk.u64_in, IntWalk.u8_in], by simp (disch := omega) only [go_sem, ↓IntWalk.iteOmega, IntWalk.toNatUp, Nat.reduceEqDiff, Nat.reduceAdd, Nat.reduceMul, Nat.reduceSub, Nat.reduceLT, Nat.reduceLeDiff, Int.reduceToNat, Int.reduceLT, Int.reduceLE, Int.reduceEq, Int.reduceAdd, Int.reduceSub, Int.reduceMul, Int.toNat_natCast, reduceCtorEq, decide_true, decide_false, IntWalk.i64_in, IntWalk.u64_in, IntWalk.u8_in], by simp (disch := omega) only [go_sem, ↓IntWalk.iteOmega, IntWalk.toNatUp, Nat.reduceEqDiff, Nat.reduceAdd, Nat.reduceMul, Nat.reduceSub, Nat.reduceLT, Nat.reduceLeDiff, Int.reduceToNat, Int.reduceLT, Int.reduceLE, Int.reduceEq, Int.reduceAdd, Int.reduceSub, Int.reduceMul, Int.toNat_natCast, reduceCtorEq, decide_true, decide_false, IntWalk.i64_in, IntWalk.u64_in, IntWalk.u8_in]⟩ ?_
        rintro m a o nx ⟨k, hk, rfl, h1, h2, h7, h8, h10, h12, ho7, ho8, ho10⟩
        by_cases hlt : k < 10
        · have hwo := hword k few (by omega)
          have hwl : (wordOf ns k few).length ≤ 1000000 := by
            have := wordOf_le ns k few
            omega
          have hwi := wordOf_in5 ns k few
          generalize wordOf ns k few = w at hwo hwl hwi
          have g1 := hmat w hwl
          have g2 := hnr w hwl
          have g3 := hdr w hwl hwi
          generalize mt w = b at g1 g2 g3
          have hbe : (b == b) = true := beq_self_eq_true _
          simp (disch := omega) only [go_sem, ↓IntWalk.iteOmega, IntWalk.toNatUp, Nat.reduceEqDiff, Nat.reduceAdd, Nat.reduceMul, Nat.reduceSub, Nat.reduceLT, Nat.reduceLeDiff, Int.reduceToNat, Int.reduceLT, Int.reduceLE, Int.reduceEq, Int.reduceAdd, Int.reduceSub, Int.reduceMul, Int.toNat_natCast, reduceCtorEq, decide_true, decide_false, IntWalk.i64_in, IntWalk.u64_in, IntWalk.u8_in, h1, h2, h7, h8, h10, h12, ho7, ho8, ho10, hwo, g1, g2, g3, hbe]
          exact ⟨_, by omega, k + 1, by omega, rfl, rfl⟩
        · have hke : k = 10 := by omega
          subst hke
          simp (disch := omega) only [go_sem, ↓IntWalk.iteOmega, IntWalk.toNatUp, Nat.reduceEqDiff, Nat.reduceAdd, Nat.reduceMul, Nat.reduceSub, Nat.reduceLT, Nat.reduceLeDiff, Int.reduceToNat, Int.reduceLT, Int.reduceLE, Int.reduceEq, Int.reduceAdd, Int.reduceSub, Int.reduceMul, Int.toNat_natCast, reduceCtorEq, decide_true, decide_false, IntWalk.i64_in, IntWalk.u64_in, IntWalk.u8_in, h10, h12, ho10, hchk]
  · rw [Bool.not_eq_true] at hf
    rw [hf] at hfw
    simp (disch := omega) only [go_sem, ↓IntWalk.iteOmega, IntWalk.toNatUp, Nat.reduceEqDiff, Nat.reduceAdd, Nat.reduceMul, Nat.reduceSub, Nat.reduceLT, Nat.reduceLeDiff, Int.reduceToNat, Int.reduceLT, Int.reduceLE, Int.reduceEq, Int.reduceAdd, Int.reduceSub, Int.reduceMul, Int.toNat_natCast, reduceCtorEq, decide_true, decide_false, IntWalk.i64_in, IntWalk.u64_in, IntWalk.u8_in, hkn, hfw]
end Go.Proofs.YthhfjjnhkifbfaaDoor.A

namespace Go.Proofs.YthhfjjnhkifbfaaDoor
open Go Go.Proofs.YthhfjjnhkifbfaaDoor.A
set_option maxRecDepth 100000 in
theorem dfaTakes_lifted (os : Os) (started : os.Started) (H : Type) (enc : TypeId × Value → H) :
    ReturnsInHanded {} Tryd.checked os 6 .any (fun w args => (Rows.dfaTakesSpec.pre enc Tryd.prog Tryd.f6 [] false w args ∧ laidMetH Tryd.prog laidL w) ∧ sizedMet enc Tryd.prog Tryd.f6 (OpenSpec.ofChange Rows.dfaTakesSpec) false w args) (Rows.dfaTakesSpec.post enc Tryd.prog Tryd.f6 false true false false) :=
  law_laid (C := Tryd.checked) (L := laidL) laidL_noh Tryd.own started (by kernel_rfl) Tryd.func6
    (ChangeSpec.witness_at (enc := enc) (C := Tryd.checked) (os := os) (X := fun w _ => laidMetH Tryd.prog laidL w) false (laidWorld os) #[.slice none 0 0, .slice none 0 0, .int .i64 0] 8 rfl (by kernel_rfl) (by kernel_rfl) (by kernel_rfl) (by kernel_rfl) (by kernel_rfl) (laidWorld_met os _))
    Tryd.laidOut (ks := [50, 26, 3, 85]) (by kernel_rfl) (by kernel_rfl) (tb := 4) (by kernel_rfl) (by kernel_rfl) rfl
    (fun ds hds => by
      match ds, hds with
      | [_, _, _], _ => exact ⟨rfl, rfl, rfl⟩)
    laid_gl (fun xs hxs => by
      rw [show Tryd.f6.params.toList = [50, 26, 3] from rfl] at hxs
      match xs, hxs with
      | [x1, x2, x3], ⟨h1, h2, h3, _⟩ =>
        obtain ⟨n1, rfl⟩ := arg_raws h1
        obtain ⟨n2, rfl, _⟩ := arg_ints (e := 3) (by kernel_rfl) (by kernel_rfl) h2
        obtain ⟨n3, rfl, _⟩ := arg_int (k := .i64) (by kernel_rfl) h3
        exact dtakes_ok n1 n2 n3)
theorem dfaTakes_row_holds : Rows.DfaTakesSaid :=
  OpenClaim.holds_of_wide 6 Tryd.f6 rfl rfl rfl rfl rfl rfl rfl ⟨rfl, rfl, rfl, rfl, rfl⟩ rfl rfl rfl rfl rfl (by kernel_rfl) Tryd.func6 (by kernel_rfl)
    (of_decide_eq_true (by kernel_rfl)) (by unfold Func.isWrapper; first | (rw [if_pos (by decide +kernel)]; kernel_rfl) | (rw [if_neg (by decide +kernel)]; exact ⟨rfl, rfl⟩))
    (fun os started H enc _ => dfaTakes_lifted os started H enc)
theorem dfaTakes_card_holds : Rows.DfaTakesCardSaid :=
  Claim7.holds_tied_plain_at .later [] [.data, .data, .data] true (true, "31b57a73b418b03f6695005d26e62927fc0dacb682e6ee5b1aa980f0c3b8d683") false
    dfaTakes_row_holds (fun _ h => by cases h) (by kernel_rfl) (fun _ h => by cases h) dfaTakes_row_tie rfl ⟨rfl, rfl⟩ (by kernel_rfl) rfl
    (fun f fn hf hfn => by
      obtain rfl : f = 6 := (Option.some.inj ((show Tryd.prog.funcNamed "milestone/milestonelaw7.DfaTakes" = some 6 by kernel_rfl).symm.trans hf)).symm
      obtain rfl : fn = Tryd.f6 := (Option.some.inj (Tryd.func6.symm.trans hfn)).symm
      refine ⟨by kernel_rfl, fun j t ht => ?_⟩
      exact (wants_all (by kernel_rfl : (Tryd.f6.params.toList.all fun t => !Tryd.prog.wantsStandIn t) = true) ht))
    (by kernel_rfl)
end Go.Proofs.YthhfjjnhkifbfaaDoor
