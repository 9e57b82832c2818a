/- RegexErrs answers true for whatever it is called with. -/
import Derived.Test.YtmcbfbpdfbcakaaDoorMLRErrs1
import Derived.Test.YtmcbfbpdfbcakaaDoorMLRErrs2
import Derived.Test.YtmcbfbpdfbcakaaDoorMLRErrs3
import Derived.Test.YtmcbfbpdfbcakaaDoorMLRErrs4
import Derived.Test.YtmcbfbpdfbcakaaDoorMLRErrs5
set_option linter.unusedVariables false
set_option linter.unusedSimpArgs false
set_option linter.unnecessarySimpa false
namespace Go.Proofs.YtmcbfbpdfbcakaaDoor.A
open Go
set_option maxRecDepth 20000
theorem perr0 : XL4 18 [.str []] = some (.tup [.agg [.int .i64 0, .int .i64 0, .int .i64 0, .int .i64 0, .sl 0 []], .int .i64 0, .int .i64 3]) := by kernel_rfl
theorem perr1 : XL4 18 [.str [40]] = some (.tup [.agg [.int .i64 0, .int .i64 0, .int .i64 0, .int .i64 0, .sl 0 []], .int .i64 1, .int .i64 3]) := by kernel_rfl
theorem perr2 : XL4 18 [.str [41]] = some (.tup [.agg [.int .i64 0, .int .i64 0, .int .i64 0, .int .i64 0, .sl 0 []], .int .i64 0, .int .i64 3]) := by kernel_rfl
theorem perr3 : XL4 18 [.str [119, 41]] = some (.tup [.agg [.int .i64 0, .int .i64 0, .int .i64 0, .int .i64 0, .sl 0 []], .int .i64 1, .int .i64 3]) := by kernel_rfl
theorem perr4 : XL4 18 [.str [40, 119]] = some (.tup [.agg [.int .i64 0, .int .i64 0, .int .i64 0, .int .i64 0, .sl 0 []], .int .i64 2, .int .i64 3]) := by kernel_rfl
theorem perr5 : XL4 18 [.str [119, 124]] = some (.tup [.agg [.int .i64 0, .int .i64 0, .int .i64 0, .int .i64 0, .sl 0 []], .int .i64 2, .int .i64 3]) := by kernel_rfl
theorem perr6 : XL4 18 [.str [124, 119]] = some (.tup [.agg [.int .i64 0, .int .i64 0, .int .i64 0, .int .i64 0, .sl 0 []], .int .i64 0, .int .i64 3]) := by kernel_rfl
theorem perr7 : XL4 18 [.str [42]] = some (.tup [.agg [.int .i64 0, .int .i64 0, .int .i64 0, .int .i64 0, .sl 0 []], .int .i64 0, .int .i64 3]) := by kernel_rfl
theorem perr8 : XL4 18 [.str [119, 123]] = some (.tup [.agg [.int .i64 0, .int .i64 0, .int .i64 0, .int .i64 0, .sl 0 []], .int .i64 2, .int .i64 3]) := by kernel_rfl
theorem perr9 : XL4 18 [.str [119, 123, 49]] = some (.tup [.agg [.int .i64 0, .int .i64 0, .int .i64 0, .int .i64 0, .sl 0 []], .int .i64 3, .int .i64 3]) := by kernel_rfl
theorem perr10 : XL4 18 [.str [119, 123, 49, 44]] = some (.tup [.agg [.int .i64 0, .int .i64 0, .int .i64 0, .int .i64 0, .sl 0 []], .int .i64 4, .int .i64 3]) := by kernel_rfl
theorem perr11 : XL4 18 [.str [119, 123, 49, 44, 50]] = some (.tup [.agg [.int .i64 0, .int .i64 0, .int .i64 0, .int .i64 0, .sl 0 []], .int .i64 5, .int .i64 3]) := by kernel_rfl
theorem perr12 : XL4 18 [.str [119, 123, 50, 44, 49, 125]] = some (.tup [.agg [.int .i64 0, .int .i64 0, .int .i64 0, .int .i64 0, .sl 0 []], .int .i64 1, .int .i64 3]) := by kernel_rfl
theorem perr13 : XL4 18 [.str [119, 123, 97, 44, 49, 125]] = some (.tup [.agg [.int .i64 0, .int .i64 0, .int .i64 0, .int .i64 0, .sl 0 []], .int .i64 1, .int .i64 3]) := by kernel_rfl
theorem perr14 : XL4 18 [.str [119, 123, 49, 44, 98, 125]] = some (.tup [.agg [.int .i64 0, .int .i64 0, .int .i64 0, .int .i64 0, .sl 0 []], .int .i64 1, .int .i64 3]) := by kernel_rfl
theorem perr15 : XL4 18 [.str [119, 123, 49, 59, 50, 125]] = some (.tup [.agg [.int .i64 0, .int .i64 0, .int .i64 0, .int .i64 0, .sl 0 []], .int .i64 3, .int .i64 3]) := by kernel_rfl
theorem perr16 : XL4 18 [.str [119, 123, 49, 44, 50, 41]] = some (.tup [.agg [.int .i64 0, .int .i64 0, .int .i64 0, .int .i64 0, .sl 0 []], .int .i64 5, .int .i64 3]) := by kernel_rfl
theorem perr17 : XL4 18 [.str [91]] = some (.tup [.agg [.int .i64 0, .int .i64 0, .int .i64 0, .int .i64 0, .sl 0 []], .int .i64 1, .int .i64 3]) := by kernel_rfl
theorem perr18 : XL4 18 [.str [91, 93]] = some (.tup [.agg [.int .i64 0, .int .i64 0, .int .i64 0, .int .i64 0, .sl 0 []], .int .i64 1, .int .i64 3]) := by kernel_rfl
theorem perr19 : XL4 18 [.str [91, 119]] = some (.tup [.agg [.int .i64 0, .int .i64 0, .int .i64 0, .int .i64 0, .sl 0 []], .int .i64 2, .int .i64 3]) := by kernel_rfl
theorem perr20 : XL4 18 [.str [91, 119, 120, 93]] = some (.tup [.agg [.int .i64 0, .int .i64 0, .int .i64 0, .int .i64 0, .sl 0 []], .int .i64 2, .int .i64 3]) := by kernel_rfl
theorem perr21 : XL4 18 [.str [120]] = some (.tup [.agg [.int .i64 0, .int .i64 0, .int .i64 0, .int .i64 0, .sl 0 []], .int .i64 0, .int .i64 3]) := by kernel_rfl
theorem perr22 : XL4 18 [.str [119, 87]] = some (.tup [.agg [.int .i64 0, .int .i64 0, .int .i64 0, .int .i64 0, .sl 0 []], .int .i64 1, .int .i64 3]) := by kernel_rfl
theorem perr23 : XL4 18 [.str [119, 40, 41]] = some (.tup [.agg [.int .i64 0, .int .i64 0, .int .i64 0, .int .i64 0, .sl 0 []], .int .i64 2, .int .i64 3]) := by kernel_rfl
theorem perr24 : XL4 18 [.str [119, 124, 124, 98]] = some (.tup [.agg [.int .i64 0, .int .i64 0, .int .i64 0, .int .i64 0, .sl 0 []], .int .i64 2, .int .i64 3]) := by kernel_rfl
theorem perr25 : XL4 18 [.str [40, 119, 124, 41, 98]] = some (.tup [.agg [.int .i64 0, .int .i64 0, .int .i64 0, .int .i64 0, .sl 0 []], .int .i64 3, .int .i64 3]) := by kernel_rfl
theorem perr26 : XL4 18 [.str [119, 123, 49, 50, 44, 51, 125]] = some (.tup [.agg [.int .i64 0, .int .i64 0, .int .i64 0, .int .i64 0, .sl 0 []], .int .i64 3, .int .i64 3]) := by kernel_rfl
def errL : List (List UInt8 × Int) := [([], 0), ([40], 1), ([41], 0), ([119, 41], 1), ([40, 119], 2), ([119, 124], 2), ([124, 119], 0), ([42], 0), ([119, 123], 2), ([119, 123, 49], 3), ([119, 123, 49, 44], 4), ([119, 123, 49, 44, 50], 5), ([119, 123, 50, 44, 49, 125], 1), ([119, 123, 97, 44, 49, 125], 1), ([119, 123, 49, 44, 98, 125], 1), ([119, 123, 49, 59, 50, 125], 3), ([119, 123, 49, 44, 50, 41], 5), ([91], 1), ([91, 93], 1), ([91, 119], 2), ([91, 119, 120, 93], 2), ([120], 0), ([119, 87], 1), ([119, 40, 41], 2), ([119, 124, 124, 98], 2), ([40, 119, 124, 41, 98], 3), ([119, 123, 49, 50, 44, 51, 125], 3)]
def errV (p : Int) : AV := .tup [.agg [.int .i64 0, .int .i64 0, .int .i64 0, .int .i64 0, .sl 0 []], .int .i64 p, .int .i64 3]
theorem perr_all : ∀ x ∈ errL, XL4 18 [.str x.1] = some (errV x.2) := by
  intro x hx
  simp only [errL, List.mem_cons, List.not_mem_nil, or_false] at hx
  rcases hx with rfl | rfl | rfl | rfl | rfl | rfl | rfl | rfl | rfl | rfl | rfl | rfl | rfl | rfl | rfl | rfl | rfl | rfl | rfl | rfl | rfl | rfl | rfl | rfl | rfl | rfl | rfl
  · exact perr0
  · exact perr1
  · exact perr2
  · exact perr3
  · exact perr4
  · exact perr5
  · exact perr6
  · exact perr7
  · exact perr8
  · exact perr9
  · exact perr10
  · exact perr11
  · exact perr12
  · exact perr13
  · exact perr14
  · exact perr15
  · exact perr16
  · exact perr17
  · exact perr18
  · exact perr19
  · exact perr20
  · exact perr21
  · exact perr22
  · exact perr23
  · exact perr24
  · exact perr25
  · exact perr26
def errS : List AV := [.str [], .str [40], .str [41], .str [119, 41], .str [40, 119], .str [119, 124], .str [124, 119], .str [42], .str [119, 123], .str [119, 123, 49], .str [119, 123, 49, 44], .str [119, 123, 49, 44, 50], .str [119, 123, 50, 44, 49, 125], .str [119, 123, 97, 44, 49, 125], .str [119, 123, 49, 44, 98, 125], .str [119, 123, 49, 59, 50, 125], .str [119, 123, 49, 44, 50, 41], .str [91], .str [91, 93], .str [91, 119], .str [91, 119, 120, 93], .str [120], .str [119, 87], .str [119, 40, 41], .str [119, 124, 124, 98], .str [40, 119, 124, 41, 98], .str [119, 123, 49, 50, 44, 51, 125]]
def errW : List AV := [.int .i64 0, .int .i64 1, .int .i64 0, .int .i64 1, .int .i64 2, .int .i64 2, .int .i64 0, .int .i64 0, .int .i64 2, .int .i64 3, .int .i64 4, .int .i64 5, .int .i64 1, .int .i64 1, .int .i64 1, .int .i64 3, .int .i64 5, .int .i64 1, .int .i64 1, .int .i64 2, .int .i64 2, .int .i64 0, .int .i64 1, .int .i64 2, .int .i64 2, .int .i64 3, .int .i64 3]
def errPS : List (Nat × AV) := [(0, .str []), (1, .str [40]), (2, .str [41]), (3, .str [119, 41]), (4, .str [40, 119]), (5, .str [119, 124]), (6, .str [124, 119]), (7, .str [42]), (8, .str [119, 123]), (9, .str [119, 123, 49]), (10, .str [119, 123, 49, 44]), (11, .str [119, 123, 49, 44, 50]), (12, .str [119, 123, 50, 44, 49, 125]), (13, .str [119, 123, 97, 44, 49, 125]), (14, .str [119, 123, 49, 44, 98, 125]), (15, .str [119, 123, 49, 59, 50, 125]), (16, .str [119, 123, 49, 44, 50, 41]), (17, .str [91]), (18, .str [91, 93]), (19, .str [91, 119]), (20, .str [91, 119, 120, 93]), (21, .str [120]), (22, .str [119, 87]), (23, .str [119, 40, 41]), (24, .str [119, 124, 124, 98]), (25, .str [40, 119, 124, 41, 98]), (26, .str [119, 123, 49, 50, 44, 51, 125])]
def errPW : List (Nat × AV) := [(0, .int .i64 0), (1, .int .i64 1), (2, .int .i64 0), (3, .int .i64 1), (4, .int .i64 2), (5, .int .i64 2), (6, .int .i64 0), (7, .int .i64 0), (8, .int .i64 2), (9, .int .i64 3), (10, .int .i64 4), (11, .int .i64 5), (12, .int .i64 1), (13, .int .i64 1), (14, .int .i64 1), (15, .int .i64 3), (16, .int .i64 5), (17, .int .i64 1), (18, .int .i64 1), (19, .int .i64 2), (20, .int .i64 2), (21, .int .i64 0), (22, .int .i64 1), (23, .int .i64 2), (24, .int .i64 2), (25, .int .i64 3), (26, .int .i64 3)]
@[go_sem 10000] theorem partsS (a) : partsOf a [(0, Operand.const (Value.string ⟨#[]⟩)), (1, Operand.const (Value.string ⟨#[40]⟩)), (2, Operand.const (Value.string ⟨#[41]⟩)), (3, Operand.const (Value.string ⟨#[119, 41]⟩)), (4, Operand.const (Value.string ⟨#[40, 119]⟩)), (5, Operand.const (Value.string ⟨#[119, 124]⟩)), (6, Operand.const (Value.string ⟨#[124, 119]⟩)), (7, Operand.const (Value.string ⟨#[42]⟩)), (8, Operand.const (Value.string ⟨#[119, 123]⟩)), (9, Operand.const (Value.string ⟨#[119, 123, 49]⟩)), (10, Operand.const (Value.string ⟨#[119, 123, 49, 44]⟩)), (11, Operand.const (Value.string ⟨#[119, 123, 49, 44, 50]⟩)), (12, Operand.const (Value.string ⟨#[119, 123, 50, 44, 49, 125]⟩)), (13, Operand.const (Value.string ⟨#[119, 123, 97, 44, 49, 125]⟩)), (14, Operand.const (Value.string ⟨#[119, 123, 49, 44, 98, 125]⟩)), (15, Operand.const (Value.string ⟨#[119, 123, 49, 59, 50, 125]⟩)), (16, Operand.const (Value.string ⟨#[119, 123, 49, 44, 50, 41]⟩)), (17, Operand.const (Value.string ⟨#[91]⟩)), (18, Operand.const (Value.string ⟨#[91, 93]⟩)), (19, Operand.const (Value.string ⟨#[91, 119]⟩)), (20, Operand.const (Value.string ⟨#[91, 119, 120, 93]⟩)), (21, Operand.const (Value.string ⟨#[120]⟩)), (22, Operand.const (Value.string ⟨#[119, 87]⟩)), (23, Operand.const (Value.string ⟨#[119, 40, 41]⟩)), (24, Operand.const (Value.string ⟨#[119, 124, 124, 98]⟩)), (25, Operand.const (Value.string ⟨#[40, 119, 124, 41, 98]⟩)), (26, Operand.const (Value.string ⟨#[119, 123, 49, 50, 44, 51, 125]⟩))] = some errPS := by kernel_rfl
@[go_sem 10000] theorem partsW (a) : partsOf a [(0, Operand.const (Value.int IntKind.i64 0)), (1, Operand.const (Value.int IntKind.i64 1)), (2, Operand.const (Value.int IntKind.i64 0)), (3, Operand.const (Value.int IntKind.i64 1)), (4, Operand.const (Value.int IntKind.i64 2)), (5, Operand.const (Value.int IntKind.i64 2)), (6, Operand.const (Value.int IntKind.i64 0)), (7, Operand.const (Value.int IntKind.i64 0)), (8, Operand.const (Value.int IntKind.i64 2)), (9, Operand.const (Value.int IntKind.i64 3)), (10, Operand.const (Value.int IntKind.i64 4)), (11, Operand.const (Value.int IntKind.i64 5)), (12, Operand.const (Value.int IntKind.i64 1)), (13, Operand.const (Value.int IntKind.i64 1)), (14, Operand.const (Value.int IntKind.i64 1)), (15, Operand.const (Value.int IntKind.i64 3)), (16, Operand.const (Value.int IntKind.i64 5)), (17, Operand.const (Value.int IntKind.i64 1)), (18, Operand.const (Value.int IntKind.i64 1)), (19, Operand.const (Value.int IntKind.i64 2)), (20, Operand.const (Value.int IntKind.i64 2)), (21, Operand.const (Value.int IntKind.i64 0)), (22, Operand.const (Value.int IntKind.i64 1)), (23, Operand.const (Value.int IntKind.i64 2)), (24, Operand.const (Value.int IntKind.i64 2)), (25, Operand.const (Value.int IntKind.i64 3)), (26, Operand.const (Value.int IntKind.i64 3))] = some errPW := by kernel_rfl
@[go_sem 10000] theorem buildS (tg o nx) : aBuildSlice Tryd.prog tg 33 27 errPS ⟨o, nx⟩ = some (.ref tg tg 0 27, ⟨upd o tg (.row ⟨9, 1, tg, false, true, errS⟩), nx⟩) := by kernel_rfl
@[go_sem 10000] theorem buildW (tg o nx) : aBuildSlice Tryd.prog tg 23 27 errPW ⟨o, nx⟩ = some (.ref tg tg 0 27, ⟨upd o tg (.row ⟨3, 1, tg, false, true, errW⟩), nx⟩) := by kernel_rfl
end Go.Proofs.YtmcbfbpdfbcakaaDoor.A
namespace Go.Proofs.YtmcbfbpdfbcakaaDoor.A
open Go
set_option maxRecDepth 20000
theorem reg3 (X a o nx) (Q : WPost) : WP (EX md0 X) noR 10 (fun _ => none) (pathC [1, 1, 0] (Tryd.f6.body.getD .skip)) a o nx Q = Q .normal (A.put (A.put a 11 (.ref (nx, 11) (nx, 11) 0 27)) 3 (.ref (nx, 11) (nx, 11) 0 27)) (upd o (nx, 11) (.row ⟨9, 1, (nx, 11), false, true, errS⟩)) (nx + 1) := by kernel_rfl
theorem reg4 (X a o nx) (Q : WPost) : WP (EX md0 X) noR 10 (fun _ => none) (pathC [1, 1, 1, 0] (Tryd.f6.body.getD .skip)) a o nx Q = Q .normal (A.put (A.put a 12 (.ref (nx, 12) (nx, 12) 0 27)) 4 (.ref (nx, 12) (nx, 12) 0 27)) (upd o (nx, 12) (.row ⟨3, 1, (nx, 12), false, true, errW⟩)) (nx + 1) := by kernel_rfl
theorem lookErrs (X) : lookedAt (EX md0 X) (fun _ => none) 1 Tryd.f6 = true := by kernel_rfl
set_option maxHeartbeats 4000000 in
theorem errs_wp (X : FuncId → List AV → Option AV) (which : Int) (hkn : X 13 [] = some (.bool true)) (hwi : X 17 [.int .i64 which, .int .i64 27] = some (.int .i64 (which % 27)))
    (hp : ∀ x ∈ errL, X 18 [.str x.1] = some (errV x.2)) :
    WP (EX md0 X) noR 10 (fun _ => none) (Tryd.f6.body.getD .skip) (begin_ [.int .i64 which]) (fun _ => none) 0 (fun u a o nx => (u = .normal ∨ u = .ret) ∧ view o vDepth (a 2) = .bool true) := by
  have h0 := Int.emod_nonneg which (show (27 : Int) ≠ 0 by decide)
  have h1 := Int.emod_lt_of_pos which (show (0 : Int) < 27 by decide)
  generalize which % 27 = q at *
  have r3 := reg3 X
  have r4 := reg4 X
  obtain ⟨c3, h3⟩ : ∃ c, c = pathC [1, 1, 0] (Tryd.f6.body.getD .skip) := ⟨_, rfl⟩
  obtain ⟨c4, h4⟩ : ∃ c, c = pathC [1, 1, 1, 0] (Tryd.f6.body.getD .skip) := ⟨_, rfl⟩
  rw [← h3] at r3
  rw [← h4] at r4
  simp only [Tryd.f6, Option.getD_some, pathC] at h3 h4
  simp only [Tryd.f6, Option.getD_some]
  rw [← h3, ← h4]
  clear h3 h4
  obtain ⟨k, rfl⟩ := Int.eq_ofNat_of_zero_le h0
  have hwi : X 17 [.int .i64 which, .int .i64 ((27 : Nat) : Int)] = some (.int .i64 k) := hwi
  simp (disch := omega) only [go_sem, ↓IntWalk.iteOmega, IntWalk.toNatUp, Nat.reduceEqDiff, Nat.reduceAdd, Nat.reduceMul, Nat.reduceSub, Nat.reduceLT, Nat.reduceLeDiff, Int.reduceToNat, Int.reduceLT, Int.reduceLE, Int.reduceEq, Int.reduceAdd, Int.reduceSub, Int.reduceMul, Int.toNat_natCast, reduceCtorEq, decide_true, decide_false, IntWalk.i64_in, IntWalk.u64_in, IntWalk.u8_in, hkn, r3, r4]
  obtain ⟨L, hL⟩ : ∃ L : List AV, L = errS := ⟨_, rfl⟩
  obtain ⟨M, hM⟩ : ∃ M : List AV, M = errW := ⟨_, rfl⟩
  rw [← hL, ← hM]
  have hLl : L.length = 27 := by rw [hL]; rfl
  have hMl : M.length = 27 := by rw [hM]; rfl
  obtain ⟨x, hx, e1, e2⟩ : ∃ x ∈ errL, take1 false 1 (L.drop k) = some (.str x.1) ∧ take1 false 1 (M.drop k) = some (.int .i64 x.2) := by
    have hq : k = 0 ∨ k = 1 ∨ k = 2 ∨ k = 3 ∨ k = 4 ∨ k = 5 ∨ k = 6 ∨ k = 7 ∨ k = 8 ∨ k = 9 ∨ k = 10 ∨ k = 11 ∨ k = 12 ∨ k = 13 ∨ k = 14 ∨ k = 15 ∨ k = 16 ∨ k = 17 ∨ k = 18 ∨ k = 19 ∨ k = 20 ∨ k = 21 ∨ k = 22 ∨ k = 23 ∨ k = 24 ∨ k = 25 ∨ k = 26 := by omega
    rcases hq with h | h | h | h | h | h | h | h | h | h | h | h | h | h | h | h | h | h | h | h | h | h | h | h | h | h | h
    · exact ⟨([], 0), (by simp [errL]), (by rw [hL, h]; rfl), (by rw [hM, h]; rfl)⟩
    · exact ⟨([40], 1), (by simp [errL]), (by rw [hL, h]; rfl), (by rw [hM, h]; rfl)⟩
    · exact ⟨([41], 0), (by simp [errL]), (by rw [hL, h]; rfl), (by rw [hM, h]; rfl)⟩
    · exact ⟨([119, 41], 1), (by simp [errL]), (by rw [hL, h]; rfl), (by rw [hM, h]; rfl)⟩
    · exact ⟨([40, 119], 2), (by simp [errL]), (by rw [hL, h]; rfl), (by rw [hM, h]; rfl)⟩
    · exact ⟨([119, 124], 2), (by simp [errL]), (by rw [hL, h]; rfl), (by rw [hM, h]; rfl)⟩
    · exact ⟨([124, 119], 0), (by simp [errL]), (by rw [hL, h]; rfl), (by rw [hM, h]; rfl)⟩
    · exact ⟨([42], 0), (by simp [errL]), (by rw [hL, h]; rfl), (by rw [hM, h]; rfl)⟩
    · exact ⟨([119, 123], 2), (by simp [errL]), (by rw [hL, h]; rfl), (by rw [hM, h]; rfl)⟩
    · exact ⟨([119, 123, 49], 3), (by simp [errL]), (by rw [hL, h]; rfl), (by rw [hM, h]; rfl)⟩
    · exact ⟨([119, 123, 49, 44], 4), (by simp [errL]), (by rw [hL, h]; rfl), (by rw [hM, h]; rfl)⟩
    · exact ⟨([119, 123, 49, 44, 50], 5), (by simp [errL]), (by rw [hL, h]; rfl), (by rw [hM, h]; rfl)⟩
    · exact ⟨([119, 123, 50, 44, 49, 125], 1), (by simp [errL]), (by rw [hL, h]; rfl), (by rw [hM, h]; rfl)⟩
    · exact ⟨([119, 123, 97, 44, 49, 125], 1), (by simp [errL]), (by rw [hL, h]; rfl), (by rw [hM, h]; rfl)⟩
    · exact ⟨([119, 123, 49, 44, 98, 125], 1), (by simp [errL]), (by rw [hL, h]; rfl), (by rw [hM, h]; rfl)⟩
    · exact ⟨([119, 123, 49, 59, 50, 125], 3), (by simp [errL]), (by rw [hL, h]; rfl), (by rw [hM, h]; rfl)⟩
    · exact ⟨([119, 123, 49, 44, 50, 41], 5), (by simp [errL]), (by rw [hL, h]; rfl), (by rw [hM, h]; rfl)⟩
    · exact ⟨([91], 1), (by simp [errL]), (by rw [hL, h]; rfl), (by rw [hM, h]; rfl)⟩
    · exact ⟨([91, 93], 1), (by simp [errL]), (by rw [hL, h]; rfl), (by rw [hM, h]; rfl)⟩
    · exact ⟨([91, 119], 2), (by simp [errL]), (by rw [hL, h]; rfl), (by rw [hM, h]; rfl)⟩
    · exact ⟨([91, 119, 120, 93], 2), (by simp [errL]), (by rw [hL, h]; rfl), (by rw [hM, h]; rfl)⟩
    · exact ⟨([120], 0), (by simp [errL]), (by rw [hL, h]; rfl), (by rw [hM, h]; rfl)⟩
    · exact ⟨([119, 87], 1), (by simp [errL]), (by rw [hL, h]; rfl), (by rw [hM, h]; rfl)⟩
    · exact ⟨([119, 40, 41], 2), (by simp [errL]), (by rw [hL, h]; rfl), (by rw [hM, h]; rfl)⟩
    · exact ⟨([119, 124, 124, 98], 2), (by simp [errL]), (by rw [hL, h]; rfl), (by rw [hM, h]; rfl)⟩
    · exact ⟨([40, 119, 124, 41, 98], 3), (by simp [errL]), (by rw [hL, h]; rfl), (by rw [hM, h]; rfl)⟩
    · exact ⟨([119, 123, 49, 50, 44, 51, 125], 3), (by simp [errL]), (by rw [hL, h]; rfl), (by rw [hM, h]; rfl)⟩
  clear hL hM
  have e3 := hp x hx
  unfold errV at e3
  simp (disch := omega) only [go_sem, ↓IntWalk.iteOmega, IntWalk.toNatUp, Nat.reduceEqDiff, Nat.reduceAdd, Nat.reduceMul, Nat.reduceSub, Nat.reduceLT, Nat.reduceLeDiff, Int.reduceToNat, Int.reduceLT, Int.reduceLE, Int.reduceEq, Int.reduceAdd, Int.reduceSub, Int.reduceMul, Int.toNat_natCast, reduceCtorEq, decide_true, decide_false, IntWalk.i64_in, IntWalk.u64_in, IntWalk.u8_in, hwi, e1, e2, e3, hLl, hMl]
theorem errs_ok (which : Int) : Ok Tryd.prog 6 [.int .i64 which] (.bool true) := by
  refine ok_of_WP (E := EX md0 XL4) (cr := noR) XL4_ok (noR_ok _) mixed (k := 10) Tryd.func6 (lookErrs _) rfl (WP_mono (errs_wp XL4 which XL4_known (XL4_within which 27 (by omega) (by omega)) perr_all) ?_)
  rintro u a o nx ⟨h, hv⟩
  refine ⟨h, ?_⟩
  simp only [Tryd.f6]
  simp (disch := omega) only [go_sem, ↓IntWalk.iteOmega, IntWalk.toNatUp, Nat.reduceEqDiff, Nat.reduceAdd, Nat.reduceMul, Nat.reduceSub, Nat.reduceLT, Nat.reduceLeDiff, Int.reduceToNat, Int.reduceLT, Int.reduceLE, Int.reduceEq, Int.reduceAdd, Int.reduceSub, Int.reduceMul, Int.toNat_natCast, reduceCtorEq, decide_true, decide_false, IntWalk.i64_in, IntWalk.u64_in, IntWalk.u8_in]
  exact hv
end Go.Proofs.YtmcbfbpdfbcakaaDoor.A

namespace Go.Proofs.YtmcbfbpdfbcakaaDoor
open Go Go.Proofs.YtmcbfbpdfbcakaaDoor.A
set_option maxRecDepth 100000 in
theorem regexErrs_lifted (os : Os) (started : os.Started) (H : Type) (enc : TypeId × Value → H) :
    ReturnsInHanded {} Tryd.checked os 6 .any (fun w args => (Rows.regexErrsSpec.pre enc Tryd.prog Tryd.f6 [] false w args ∧ laidMetH Tryd.prog laidL w) ∧ sizedMet enc Tryd.prog Tryd.f6 (OpenSpec.ofChange Rows.regexErrsSpec) false w args) (Rows.regexErrsSpec.post enc Tryd.prog Tryd.f6 false true false false) :=
  law_laid (C := Tryd.checked) (L := laidL) laidL_noh Tryd.own started (by kernel_rfl) Tryd.func6
    (ChangeSpec.witness_at (enc := enc) (C := Tryd.checked) (os := os) (X := fun w _ => laidMetH Tryd.prog laidL w) false (laidWorld os) #[.int .i64 0] 8 rfl (by kernel_rfl) (by kernel_rfl) (by kernel_rfl) (by kernel_rfl) (by kernel_rfl) (laidWorld_met os _))
    Tryd.laidOut (ks := [3]) (by kernel_rfl) (by kernel_rfl) (tb := 4) (by kernel_rfl) (by kernel_rfl) rfl
    (fun ds hds => by
      match ds, hds with
      | [_], _ => exact ⟨rfl, rfl, rfl⟩)
    (fun xs hxs => by
      rw [show Tryd.f6.params.toList = [3] from rfl] at hxs
      match xs, hxs with
      | [x1], ⟨h1, _⟩ =>
        obtain ⟨n1, rfl, _⟩ := arg_int (k := .i64) (by kernel_rfl) h1
        exact errs_ok n1)
theorem regexErrs_row_holds : Rows.RegexErrsSaid :=
  OpenClaim.holds_of_wide 6 Tryd.f6 rfl rfl rfl rfl rfl rfl rfl ⟨rfl, rfl, rfl, rfl, rfl⟩ rfl rfl rfl rfl rfl (by kernel_rfl) Tryd.func6 (by kernel_rfl)
    (of_decide_eq_true (by kernel_rfl)) (by unfold Func.isWrapper; first | (rw [if_pos (by decide +kernel)]; kernel_rfl) | (rw [if_neg (by decide +kernel)]; exact ⟨rfl, rfl⟩))
    (fun os started H enc _ => regexErrs_lifted os started H enc)
theorem regexErrs_card_holds : Rows.RegexErrsCardSaid :=
  Claim7.holds_tied_plain_at .later [] [.data, .data, .data] true (true, "252fabc33c00c899ba09f24c312bfa73cda626b39cff52bd3a4e30b2933ed510") false
    regexErrs_row_holds (fun _ h => by cases h) (by kernel_rfl) (fun _ h => by cases h) regexErrs_row_tie rfl ⟨rfl, rfl⟩ (by kernel_rfl) rfl
    (fun f fn hf hfn => by
      obtain rfl : f = 6 := (Option.some.inj ((show Tryd.prog.funcNamed "milestone/milestonelaw4.RegexErrs" = some 6 by kernel_rfl).symm.trans hf)).symm
      obtain rfl : fn = Tryd.f6 := (Option.some.inj (Tryd.func6.symm.trans hfn)).symm
      refine ⟨by kernel_rfl, fun j t ht => ?_⟩
      exact (wants_all (by kernel_rfl : (Tryd.f6.params.toList.all fun t => !Tryd.prog.wantsStandIn t) = true) ht))
    (by kernel_rfl)
end Go.Proofs.YtmcbfbpdfbcakaaDoor
