/- RegexKnown answers true for whatever it is called with. -/
import Derived.Test.YtmcbfbpdfbcakaaDoorMLRKnown1
import Derived.Test.YtmcbfbpdfbcakaaDoorMLRKnown2
import Derived.Test.YtmcbfbpdfbcakaaDoorMLRKnown3
import Derived.Test.YtmcbfbpdfbcakaaDoorMLRKnown4
import Derived.Test.YtmcbfbpdfbcakaaDoorMLRKnown5
set_option linter.unusedVariables false
set_option linter.unusedSimpArgs false
set_option linter.unnecessarySimpa false
/- The table of contracts for the closed laws of expressions. -/
namespace Go.Proofs.YtmcbfbpdfbcakaaDoor.A
open Go
def RKn4 (args : List AV) (r : AV) : Prop := args = [] ∧ r = .bool true
theorem RKn4_fn : Fun1 RKn4 := by rintro args r r' ⟨_, rfl⟩ ⟨_, rfl⟩; rfl
theorem RKn4_ok (args r) (h : RKn4 args r) : Ok Tryd.prog 13 args r := by obtain ⟨rfl, rfl⟩ := h; exact known4_ok
noncomputable def XL4 : FuncId → List AV → Option AV := tabLook [(13, tRel RKn4), (18, (calls E4 1000).1 18), (17, tRel RW)]
theorem XL4_ok : CPSound Tryd.prog XL4 := tab_cons (tab_cons (tab_cons (tab_nil _) (tRel_ok within2_ok)) (fun args r h => ok_calls (E := E4) ext4_ok mixed h)) (tRel_ok RKn4_ok)
theorem XL4_known : XL4 13 [] = some (.bool true) := tRel_eq (R := RKn4) RKn4_fn ⟨rfl, rfl⟩
theorem XL4_within (a n : Int) (h1 : 0 < n) (h2 : n ≤ 1000000) : XL4 17 [.int .i64 a, .int .i64 n] = some (.int .i64 (a % n)) := rw_eq h1 h2
theorem perr_try : XL4 18 [.str [119, 41]] = some (.tup [.agg [.int .i64 0, .int .i64 0, .int .i64 0, .int .i64 0, .sl 0 []], .int .i64 1, .int .i64 3]) := by kernel_rfl
end Go.Proofs.YtmcbfbpdfbcakaaDoor.A
/- Expressions read, found right, written: runs of the kernel; the table of contracts with these. -/
namespace Go.Proofs.YtmcbfbpdfbcakaaDoor.A
open Go
set_option maxRecDepth 20000
noncomputable def XL5 : FuncId → List AV → Option AV := tabLook [(13, tRel RKn4), (18, (calls E4 1000).1 18), (23, (calls E4 1000).1 23), (25, (calls E4 1000).1 25), (26, (calls E4 1000).1 26), (17, tRel RW)]
theorem XL5_ok : CPSound Tryd.prog XL5 := tab_cons (tab_cons (tab_cons (tab_cons (tab_cons (tab_cons (tab_nil _) (tRel_ok within2_ok)) (fun args r h => ok_calls (E := E4) ext4_ok mixed h)) (fun args r h => ok_calls (E := E4) ext4_ok mixed h)) (fun args r h => ok_calls (E := E4) ext4_ok mixed h)) (fun args r h => ok_calls (E := E4) ext4_ok mixed h)) (tRel_ok RKn4_ok)
theorem XL5_known : XL5 13 [] = some (.bool true) := tRel_eq (R := RKn4) RKn4_fn ⟨rfl, rfl⟩
theorem XL5_within (a n : Int) (h1 : 0 < n) (h2 : n ≤ 1000000) : XL5 17 [.int .i64 a, .int .i64 n] = some (.int .i64 (a % n)) := rw_eq h1 h2
end Go.Proofs.YtmcbfbpdfbcakaaDoor.A
namespace Go.Proofs.YtmcbfbpdfbcakaaDoor.A
open Go
set_option maxRecDepth 20000
def knoL : List (List UInt8 × List UInt8) := [([119], [119]), ([40, 119, 41], [119]), ([40, 40, 119, 98, 41, 41], [119, 98]), ([119, 98, 124, 99], [119, 98, 124, 99]), ([119, 40, 98, 124, 99, 41], [119, 40, 98, 124, 99, 41]), ([40, 119, 124, 98, 41, 124, 99], [40, 119, 124, 98, 41, 124, 99]), ([119, 124, 98, 124, 99], [119, 124, 98, 124, 99]), ([40, 119, 98, 41, 99], [40, 119, 98, 41, 99]), ([119, 42, 43, 63], [119, 42, 43, 63]), ([91, 116, 119, 93], [91, 119, 116, 93]), ([91, 119, 98, 99, 102, 116, 93], [46]), ([40, 119, 98, 41, 42], [40, 119, 98, 41, 42]), ([119, 123, 48, 44, 57, 125], [119, 123, 48, 44, 57, 125]), ([91, 119, 119, 93], [119]), ([95, 124, 48], [95, 124, 48]), ([40, 119, 42, 41, 42], [119, 42, 42]), ([119, 124, 40, 98, 99, 41], [119, 124, 98, 99]), ([46, 123, 50, 44, 50, 125, 102], [46, 123, 50, 44, 50, 125, 102])]
/-- One text: it is read, right, written as the other one. -/
noncomputable def knoChk (x : List UInt8 × List UInt8) : Bool := match XL5 18 [.str x.1] with
  | some (.tup [.agg [.int .i64 a, .int .i64 b, .int .i64 c, .int .i64 d, .sl n cs], .int .i64 p, .int .i64 0]) =>
    (match XL5 23 [.agg [.int .i64 a, .int .i64 b, .int .i64 c, .int .i64 d, .sl n cs]] with | some (.bool true) => true | _ => false) &&
    (match XL5 25 [.agg [.int .i64 a, .int .i64 b, .int .i64 c, .int .i64 d, .sl n cs]] with | some (.str t) => t == x.2 | _ => false)
  | _ => false
theorem kno_all : knoL.all knoChk = true := by kernel_rfl
theorem kno_one {x : List UInt8 × List UInt8} (h : x ∈ knoL) : ∃ a b c d n cs p, XL5 18 [.str x.1] = some (.tup [.agg [.int .i64 a, .int .i64 b, .int .i64 c, .int .i64 d, .sl n cs], .int .i64 p, .int .i64 0]) ∧
    XL5 23 [.agg [.int .i64 a, .int .i64 b, .int .i64 c, .int .i64 d, .sl n cs]] = some (.bool true) ∧ XL5 25 [.agg [.int .i64 a, .int .i64 b, .int .i64 c, .int .i64 d, .sl n cs]] = some (.str x.2) := by
  have hc := List.all_eq_true.1 kno_all x h
  unfold knoChk at hc
  split at hc
  · rename_i a b c d n cs p e
    rw [Bool.and_eq_true] at hc
    refine ⟨a, b, c, d, n, cs, p, e, ?_, ?_⟩
    · have h1 := hc.1
      split at h1
      · rename_i e1; exact e1
      · cases h1
    · have h2 := hc.2
      split at h2
      · rename_i t e2
        rw [e2, eq_of_beq h2]
      · cases h2
  · cases hc
def knoS : List AV := [.str [119], .str [40, 119, 41], .str [40, 40, 119, 98, 41, 41], .str [119, 98, 124, 99], .str [119, 40, 98, 124, 99, 41], .str [40, 119, 124, 98, 41, 124, 99], .str [119, 124, 98, 124, 99], .str [40, 119, 98, 41, 99], .str [119, 42, 43, 63], .str [91, 116, 119, 93], .str [91, 119, 98, 99, 102, 116, 93], .str [40, 119, 98, 41, 42], .str [119, 123, 48, 44, 57, 125], .str [91, 119, 119, 93], .str [95, 124, 48], .str [40, 119, 42, 41, 42], .str [119, 124, 40, 98, 99, 41], .str [46, 123, 50, 44, 50, 125, 102]]
def knoW : List AV := [.str [119], .str [119], .str [119, 98], .str [119, 98, 124, 99], .str [119, 40, 98, 124, 99, 41], .str [40, 119, 124, 98, 41, 124, 99], .str [119, 124, 98, 124, 99], .str [40, 119, 98, 41, 99], .str [119, 42, 43, 63], .str [91, 119, 116, 93], .str [46], .str [40, 119, 98, 41, 42], .str [119, 123, 48, 44, 57, 125], .str [119], .str [95, 124, 48], .str [119, 42, 42], .str [119, 124, 98, 99], .str [46, 123, 50, 44, 50, 125, 102]]
theorem kreg3 (X a o nx) (Q : WPost) : WP (EX md0 X) noR 10 (fun _ => none) (pathC [1, 1, 0] (Tryd.f5.body.getD .skip)) a o nx Q = Q .normal (A.put (A.put a 11 (.ref (nx, 11) (nx, 11) 0 18)) 3 (.ref (nx, 11) (nx, 11) 0 18)) (upd o (nx, 11) (.row ⟨9, 1, (nx, 11), false, true, knoS⟩)) (nx + 1) := by kernel_rfl
theorem kreg4 (X a o nx) (Q : WPost) : WP (EX md0 X) noR 10 (fun _ => none) (pathC [1, 1, 1, 0] (Tryd.f5.body.getD .skip)) a o nx Q = Q .normal (A.put (A.put a 12 (.ref (nx, 12) (nx, 12) 0 18)) 4 (.ref (nx, 12) (nx, 12) 0 18)) (upd o (nx, 12) (.row ⟨9, 1, (nx, 12), false, true, knoW⟩)) (nx + 1) := by kernel_rfl
theorem lookKno (X) : lookedAt (EX md0 X) (fun _ => none) 1 Tryd.f5 = true := by kernel_rfl
set_option maxHeartbeats 4000000 in
theorem kno_wp (X : FuncId → List AV → Option AV) (which : Int) (hkn : X 13 [] = some (.bool true)) (hwi : X 17 [.int .i64 which, .int .i64 18] = some (.int .i64 (which % 18)))
    (hp : ∀ x ∈ knoL, ∃ a b c d n cs p, X 18 [.str x.1] = some (.tup [.agg [.int .i64 a, .int .i64 b, .int .i64 c, .int .i64 d, .sl n cs], .int .i64 p, .int .i64 0]) ∧
    X 23 [.agg [.int .i64 a, .int .i64 b, .int .i64 c, .int .i64 d, .sl n cs]] = some (.bool true) ∧ X 25 [.agg [.int .i64 a, .int .i64 b, .int .i64 c, .int .i64 d, .sl n cs]] = some (.str x.2)) :
    WP (EX md0 X) noR 10 (fun _ => none) (Tryd.f5.body.getD .skip) (begin_ [.int .i64 which]) (fun _ => none) 0 (fun u a o nx => (u = .normal ∨ u = .ret) ∧ view o vDepth (a 2) = .bool true) := by
  have h0 := Int.emod_nonneg which (show (18 : Int) ≠ 0 by decide)
  have h1 := Int.emod_lt_of_pos which (show (0 : Int) < 18 by decide)
  generalize which % 18 = q at *
  have r3 := kreg3 X
  have r4 := kreg4 X
  obtain ⟨c3, h3⟩ : ∃ c, c = pathC [1, 1, 0] (Tryd.f5.body.getD .skip) := ⟨_, rfl⟩
  obtain ⟨c4, h4⟩ : ∃ c, c = pathC [1, 1, 1, 0] (Tryd.f5.body.getD .skip) := ⟨_, rfl⟩
  rw [← h3] at r3
  rw [← h4] at r4
  simp only [Tryd.f5, Option.getD_some, pathC] at h3 h4
  simp only [Tryd.f5, Option.getD_some]
  rw [← h3, ← h4]
  clear h3 h4
  obtain ⟨k, rfl⟩ := Int.eq_ofNat_of_zero_le h0
  have hwi : X 17 [.int .i64 which, .int .i64 ((18 : Nat) : Int)] = some (.int .i64 k) := hwi
  simp (disch := omega) only [go_sem, ↓IntWalk.iteOmega, IntWalk.toNatUp, Nat.reduceEqDiff, Nat.reduceAdd, Nat.reduceMul, Nat.reduceSub, Nat.reduceLT, Nat.reduceLeDiff, Int.reduceToNat, Int.reduceLT, Int.reduceLE, Int.reduceEq, Int.reduceAdd, Int.reduceSub, Int.reduceMul, Int.toNat_natCast, reduceCtorEq, decide_true, decide_false, IntWalk.i64_in, IntWalk.u64_in, IntWalk.u8_in, hkn, r3, r4]
  obtain ⟨L, hL⟩ : ∃ L : List AV, L = knoS := ⟨_, rfl⟩
  obtain ⟨M, hM⟩ : ∃ M : List AV, M = knoW := ⟨_, rfl⟩
  rw [← hL, ← hM]
  have hLl : L.length = 18 := by rw [hL]; rfl
  have hMl : M.length = 18 := by rw [hM]; rfl
  obtain ⟨x, hx, e1, e2⟩ : ∃ x ∈ knoL, take1 false 1 (L.drop k) = some (.str x.1) ∧ take1 false 1 (M.drop k) = some (.str x.2) := by
    have hq : k = 0 ∨ k = 1 ∨ k = 2 ∨ k = 3 ∨ k = 4 ∨ k = 5 ∨ k = 6 ∨ k = 7 ∨ k = 8 ∨ k = 9 ∨ k = 10 ∨ k = 11 ∨ k = 12 ∨ k = 13 ∨ k = 14 ∨ k = 15 ∨ k = 16 ∨ k = 17 := by omega
    rcases hq with h | h | h | h | h | h | h | h | h | h | h | h | h | h | h | h | h | h
    · exact ⟨([119], [119]), (by simp [knoL]), (by rw [hL, h]; rfl), (by rw [hM, h]; rfl)⟩
    · exact ⟨([40, 119, 41], [119]), (by simp [knoL]), (by rw [hL, h]; rfl), (by rw [hM, h]; rfl)⟩
    · exact ⟨([40, 40, 119, 98, 41, 41], [119, 98]), (by simp [knoL]), (by rw [hL, h]; rfl), (by rw [hM, h]; rfl)⟩
    · exact ⟨([119, 98, 124, 99], [119, 98, 124, 99]), (by simp [knoL]), (by rw [hL, h]; rfl), (by rw [hM, h]; rfl)⟩
    · exact ⟨([119, 40, 98, 124, 99, 41], [119, 40, 98, 124, 99, 41]), (by simp [knoL]), (by rw [hL, h]; rfl), (by rw [hM, h]; rfl)⟩
    · exact ⟨([40, 119, 124, 98, 41, 124, 99], [40, 119, 124, 98, 41, 124, 99]), (by simp [knoL]), (by rw [hL, h]; rfl), (by rw [hM, h]; rfl)⟩
    · exact ⟨([119, 124, 98, 124, 99], [119, 124, 98, 124, 99]), (by simp [knoL]), (by rw [hL, h]; rfl), (by rw [hM, h]; rfl)⟩
    · exact ⟨([40, 119, 98, 41, 99], [40, 119, 98, 41, 99]), (by simp [knoL]), (by rw [hL, h]; rfl), (by rw [hM, h]; rfl)⟩
    · exact ⟨([119, 42, 43, 63], [119, 42, 43, 63]), (by simp [knoL]), (by rw [hL, h]; rfl), (by rw [hM, h]; rfl)⟩
    · exact ⟨([91, 116, 119, 93], [91, 119, 116, 93]), (by simp [knoL]), (by rw [hL, h]; rfl), (by rw [hM, h]; rfl)⟩
    · exact ⟨([91, 119, 98, 99, 102, 116, 93], [46]), (by simp [knoL]), (by rw [hL, h]; rfl), (by rw [hM, h]; rfl)⟩
    · exact ⟨([40, 119, 98, 41, 42], [40, 119, 98, 41, 42]), (by simp [knoL]), (by rw [hL, h]; rfl), (by rw [hM, h]; rfl)⟩
    · exact ⟨([119, 123, 48, 44, 57, 125], [119, 123, 48, 44, 57, 125]), (by simp [knoL]), (by rw [hL, h]; rfl), (by rw [hM, h]; rfl)⟩
    · exact ⟨([91, 119, 119, 93], [119]), (by simp [knoL]), (by rw [hL, h]; rfl), (by rw [hM, h]; rfl)⟩
    · exact ⟨([95, 124, 48], [95, 124, 48]), (by simp [knoL]), (by rw [hL, h]; rfl), (by rw [hM, h]; rfl)⟩
    · exact ⟨([40, 119, 42, 41, 42], [119, 42, 42]), (by simp [knoL]), (by rw [hL, h]; rfl), (by rw [hM, h]; rfl)⟩
    · exact ⟨([119, 124, 40, 98, 99, 41], [119, 124, 98, 99]), (by simp [knoL]), (by rw [hL, h]; rfl), (by rw [hM, h]; rfl)⟩
    · exact ⟨([46, 123, 50, 44, 50, 125, 102], [46, 123, 50, 44, 50, 125, 102]), (by simp [knoL]), (by rw [hL, h]; rfl), (by rw [hM, h]; rfl)⟩
  clear hL hM
  obtain ⟨a1, a2, a3, a4, n5, cs, p, f1, f2, f3⟩ := hp x hx
  have hbe : (x.2 == x.2) = true := beq_self_eq_true _
  simp (disch := omega) only [go_sem, ↓IntWalk.iteOmega, IntWalk.toNatUp, Nat.reduceEqDiff, Nat.reduceAdd, Nat.reduceMul, Nat.reduceSub, Nat.reduceLT, Nat.reduceLeDiff, Int.reduceToNat, Int.reduceLT, Int.reduceLE, Int.reduceEq, Int.reduceAdd, Int.reduceSub, Int.reduceMul, Int.toNat_natCast, reduceCtorEq, decide_true, decide_false, IntWalk.i64_in, IntWalk.u64_in, IntWalk.u8_in, hwi, e1, e2, f1, f2, f3, hbe, hLl, hMl]
theorem kno_ok (which : Int) : Ok Tryd.prog 5 [.int .i64 which] (.bool true) := by
  refine ok_of_WP (E := EX md0 XL5) (cr := noR) XL5_ok (noR_ok _) mixed (k := 10) Tryd.func5 (lookKno _) rfl (WP_mono (kno_wp XL5 which XL5_known (XL5_within which 18 (by omega) (by omega)) (fun x hx => kno_one hx)) ?_)
  rintro u a o nx ⟨h, hv⟩
  refine ⟨h, ?_⟩
  simp only [Tryd.f5]
  simp (disch := omega) only [go_sem, ↓IntWalk.iteOmega, IntWalk.toNatUp, Nat.reduceEqDiff, Nat.reduceAdd, Nat.reduceMul, Nat.reduceSub, Nat.reduceLT, Nat.reduceLeDiff, Int.reduceToNat, Int.reduceLT, Int.reduceLE, Int.reduceEq, Int.reduceAdd, Int.reduceSub, Int.reduceMul, Int.toNat_natCast, reduceCtorEq, decide_true, decide_false, IntWalk.i64_in, IntWalk.u64_in, IntWalk.u8_in]
  exact hv
end Go.Proofs.YtmcbfbpdfbcakaaDoor.A

namespace Go.Proofs.YtmcbfbpdfbcakaaDoor
open Go Go.Proofs.YtmcbfbpdfbcakaaDoor.A
set_option maxRecDepth 100000 in
theorem regexKnown_lifted (os : Os) (started : os.Started) (H : Type) (enc : TypeId × Value → H) :
    ReturnsInHanded {} Tryd.checked os 5 .any (fun w args => (Rows.regexKnownSpec.pre enc Tryd.prog Tryd.f5 [] false w args ∧ laidMetH Tryd.prog laidL w) ∧ sizedMet enc Tryd.prog Tryd.f5 (OpenSpec.ofChange Rows.regexKnownSpec) false w args) (Rows.regexKnownSpec.post enc Tryd.prog Tryd.f5 false true false false) :=
  law_laid (C := Tryd.checked) (L := laidL) laidL_noh Tryd.own started (by kernel_rfl) Tryd.func5
    (ChangeSpec.witness_at (enc := enc) (C := Tryd.checked) (os := os) (X := fun w _ => laidMetH Tryd.prog laidL w) false (laidWorld os) #[.int .i64 0] 8 rfl (by kernel_rfl) (by kernel_rfl) (by kernel_rfl) (by kernel_rfl) (by kernel_rfl) (laidWorld_met os _))
    Tryd.laidOut (ks := [3]) (by kernel_rfl) (by kernel_rfl) (tb := 4) (by kernel_rfl) (by kernel_rfl) rfl
    (fun ds hds => by
      match ds, hds with
      | [_], _ => exact ⟨rfl, rfl, rfl⟩)
    (fun xs hxs => by
      rw [show Tryd.f5.params.toList = [3] from rfl] at hxs
      match xs, hxs with
      | [x1], ⟨h1, _⟩ =>
        obtain ⟨n1, rfl, _⟩ := arg_int (k := .i64) (by kernel_rfl) h1
        exact kno_ok n1)
theorem regexKnown_row_holds : Rows.RegexKnownSaid :=
  OpenClaim.holds_of_wide 5 Tryd.f5 rfl rfl rfl rfl rfl rfl rfl ⟨rfl, rfl, rfl, rfl, rfl⟩ rfl rfl rfl rfl rfl (by kernel_rfl) Tryd.func5 (by kernel_rfl)
    (of_decide_eq_true (by kernel_rfl)) (by unfold Func.isWrapper; first | (rw [if_pos (by decide +kernel)]; kernel_rfl) | (rw [if_neg (by decide +kernel)]; exact ⟨rfl, rfl⟩))
    (fun os started H enc _ => regexKnown_lifted os started H enc)
theorem regexKnown_card_holds : Rows.RegexKnownCardSaid :=
  Claim7.holds_tied_plain_at .later [] [.data, .data, .data] true (true, "252fabc33c00c899ba09f24c312bfa73cda626b39cff52bd3a4e30b2933ed510") false
    regexKnown_row_holds (fun _ h => by cases h) (by kernel_rfl) (fun _ h => by cases h) regexKnown_row_tie rfl ⟨rfl, rfl⟩ (by kernel_rfl) rfl
    (fun f fn hf hfn => by
      obtain rfl : f = 5 := (Option.some.inj ((show Tryd.prog.funcNamed "milestone/milestonelaw4.RegexKnown" = some 5 by kernel_rfl).symm.trans hf)).symm
      obtain rfl : fn = Tryd.f5 := (Option.some.inj (Tryd.func5.symm.trans hfn)).symm
      refine ⟨by kernel_rfl, fun j t ht => ?_⟩
      exact (wants_all (by kernel_rfl : (Tryd.f5.params.toList.all fun t => !Tryd.prog.wantsStandIn t) = true) ht))
    (by kernel_rfl)
end Go.Proofs.YtmcbfbpdfbcakaaDoor
