/- Facts on the types' table, on how functions are called. -/
import Derived.Test.YtpmjpogcaglphaaDoorME91
import Derived.Test.YtpmjpogcaglphaaDoorME92
import Derived.Test.YtpmjpogcaglphaaDoorME93
import Derived.Test.YtpmjpogcaglphaaDoorME94
import Derived.Test.YtpmjpogcaglphaaDoorME95
set_option linter.unusedVariables false
set_option linter.unusedSimpArgs false
set_option linter.unnecessarySimpa false
namespace Go.Proofs.YtpmjpogcaglphaaDoor.A
open Go
noncomputable def EX (md : FuncId → Mode) (X : FuncId → List AV → Option AV) : Env := ⟨Tryd.prog, md, X⟩
@[go_sem] theorem EX_P (md X) : (EX md X).P = Tryd.prog := rfl
@[go_sem] theorem EX_m (md X g) : (EX md X).mode g = md g := rfl
@[go_sem] theorem EX_x (md X g as_) : (EX md X).ext g as_ = X g as_ := rfl
@[go_sem] theorem T2s : tSize Tryd.prog 2 = some 1 := by kernel_rfl
@[go_sem] theorem T2a : tAgg Tryd.prog 2 = some false := by kernel_rfl
@[go_sem] theorem T2z : tZero Tryd.prog 2 = some [AV.int .i64 0] := by kernel_rfl
@[go_sem] theorem T2u : Tryd.prog.underlying 2 = some (.int .i64) := by kernel_rfl
@[go_sem] theorem T3s : tSize Tryd.prog 3 = some 1 := by kernel_rfl
@[go_sem] theorem T3a : tAgg Tryd.prog 3 = some false := by kernel_rfl
@[go_sem] theorem T3z : tZero Tryd.prog 3 = some [AV.int .i64 0] := by kernel_rfl
@[go_sem] theorem T3u : Tryd.prog.underlying 3 = some (.int .i64) := by kernel_rfl
@[go_sem] theorem T4s : tSize Tryd.prog 4 = some 1 := by kernel_rfl
@[go_sem] theorem T4a : tAgg Tryd.prog 4 = some false := by kernel_rfl
@[go_sem] theorem T4z : tZero Tryd.prog 4 = some [AV.bool false] := by kernel_rfl
@[go_sem] theorem T4eq (x y) : aBin Tryd.prog .eql 4 (.bool x) (.bool y) = some (.bool (x == y)) := aBin_beq (by kernel_rfl) x y
@[go_sem] theorem T4ne (x y) : aBin Tryd.prog .neq 4 (.bool x) (.bool y) = some (.bool (!(x == y))) := aBin_bne (by kernel_rfl) x y
@[go_sem] theorem T5s : tSize Tryd.prog 5 = some 1 := by kernel_rfl
@[go_sem] theorem T5a : tAgg Tryd.prog 5 = some false := by kernel_rfl
@[go_sem] theorem T5z : tZero Tryd.prog 5 = some [AV.int .u8 0] := by kernel_rfl
@[go_sem] theorem T5u : Tryd.prog.underlying 5 = some (.int .u8) := by kernel_rfl
@[go_sem] theorem T6s : tSize Tryd.prog 6 = some 1 := by kernel_rfl
@[go_sem] theorem T6a : tAgg Tryd.prog 6 = some false := by kernel_rfl
@[go_sem] theorem T6z : tZero Tryd.prog 6 = some [AV.int .u8 0] := by kernel_rfl
@[go_sem] theorem T6u : Tryd.prog.underlying 6 = some (.int .u8) := by kernel_rfl
@[go_sem] theorem T7s : tSize Tryd.prog 7 = some 4 := by kernel_rfl
@[go_sem] theorem T7a : tAgg Tryd.prog 7 = some true := by kernel_rfl
@[go_sem] theorem T7z : tZero Tryd.prog 7 = some [AV.int .i64 0, AV.int .i64 0, AV.bool false, AV.int .u8 0] := by kernel_rfl
@[go_sem] theorem T7f0p (k g off) : fieldAddrA Tryd.prog 7 0 (.ptr k g off) = some (.ptr k g (off + 0)) := fa_ptr (s := 0) (ft := 2) (by kernel_rfl) (by kernel_rfl) k g off
@[go_sem] theorem T7f0q (cs) : fieldAddrA Tryd.prog 7 0 (.fptr cs) = some (.fptr (cs.drop 0)) := fa_fptr (s := 0) (ft := 2) (by kernel_rfl) (by kernel_rfl) cs
@[go_sem] theorem T7f0v (cs) : fieldA Tryd.prog 7 0 (.agg cs) = takeT Tryd.prog 2 (cs.drop 0) := fi_agg (by kernel_rfl) cs
@[go_sem] theorem T7f1p (k g off) : fieldAddrA Tryd.prog 7 1 (.ptr k g off) = some (.ptr k g (off + 1)) := fa_ptr (s := 0) (ft := 3) (by kernel_rfl) (by kernel_rfl) k g off
@[go_sem] theorem T7f1q (cs) : fieldAddrA Tryd.prog 7 1 (.fptr cs) = some (.fptr (cs.drop 1)) := fa_fptr (s := 0) (ft := 3) (by kernel_rfl) (by kernel_rfl) cs
@[go_sem] theorem T7f1v (cs) : fieldA Tryd.prog 7 1 (.agg cs) = takeT Tryd.prog 3 (cs.drop 1) := fi_agg (by kernel_rfl) cs
@[go_sem] theorem T7f2p (k g off) : fieldAddrA Tryd.prog 7 2 (.ptr k g off) = some (.ptr k g (off + 2)) := fa_ptr (s := 0) (ft := 4) (by kernel_rfl) (by kernel_rfl) k g off
@[go_sem] theorem T7f2q (cs) : fieldAddrA Tryd.prog 7 2 (.fptr cs) = some (.fptr (cs.drop 2)) := fa_fptr (s := 0) (ft := 4) (by kernel_rfl) (by kernel_rfl) cs
@[go_sem] theorem T7f2v (cs) : fieldA Tryd.prog 7 2 (.agg cs) = takeT Tryd.prog 4 (cs.drop 2) := fi_agg (by kernel_rfl) cs
@[go_sem] theorem T7f3p (k g off) : fieldAddrA Tryd.prog 7 3 (.ptr k g off) = some (.ptr k g (off + 3)) := fa_ptr (s := 0) (ft := 6) (by kernel_rfl) (by kernel_rfl) k g off
@[go_sem] theorem T7f3q (cs) : fieldAddrA Tryd.prog 7 3 (.fptr cs) = some (.fptr (cs.drop 3)) := fa_fptr (s := 0) (ft := 6) (by kernel_rfl) (by kernel_rfl) cs
@[go_sem] theorem T7f3v (cs) : fieldA Tryd.prog 7 3 (.agg cs) = takeT Tryd.prog 6 (cs.drop 3) := fi_agg (by kernel_rfl) cs
@[go_sem] theorem T7bd (xs) : aBuild Tryd.prog 7 xs = (fillA (fun i => ([(0, 1), (1, 1), (2, 1), (3, 1)] : List (Nat × Nat))[i]?) [AV.int .i64 0, AV.int .i64 0, AV.bool false, AV.int .u8 0] xs).map .agg := by kernel_rfl
@[go_sem] theorem T7lf : eqLeaves Tryd.prog 7 = some [Leaf.int, Leaf.int, Leaf.bool, Leaf.int] := by kernel_rfl
@[go_sem] theorem T8s : tSize Tryd.prog 8 = some 4 := by kernel_rfl
@[go_sem] theorem T8a : tAgg Tryd.prog 8 = some true := by kernel_rfl
@[go_sem] theorem T8z : tZero Tryd.prog 8 = some [AV.int .i64 0, AV.int .i64 0, AV.bool false, AV.int .u8 0] := by kernel_rfl
@[go_sem] theorem T8f0p (k g off) : fieldAddrA Tryd.prog 8 0 (.ptr k g off) = some (.ptr k g (off + 0)) := fa_ptr (s := 0) (ft := 2) (by kernel_rfl) (by kernel_rfl) k g off
@[go_sem] theorem T8f0q (cs) : fieldAddrA Tryd.prog 8 0 (.fptr cs) = some (.fptr (cs.drop 0)) := fa_fptr (s := 0) (ft := 2) (by kernel_rfl) (by kernel_rfl) cs
@[go_sem] theorem T8f0v (cs) : fieldA Tryd.prog 8 0 (.agg cs) = takeT Tryd.prog 2 (cs.drop 0) := fi_agg (by kernel_rfl) cs
@[go_sem] theorem T8f1p (k g off) : fieldAddrA Tryd.prog 8 1 (.ptr k g off) = some (.ptr k g (off + 1)) := fa_ptr (s := 0) (ft := 3) (by kernel_rfl) (by kernel_rfl) k g off
@[go_sem] theorem T8f1q (cs) : fieldAddrA Tryd.prog 8 1 (.fptr cs) = some (.fptr (cs.drop 1)) := fa_fptr (s := 0) (ft := 3) (by kernel_rfl) (by kernel_rfl) cs
@[go_sem] theorem T8f1v (cs) : fieldA Tryd.prog 8 1 (.agg cs) = takeT Tryd.prog 3 (cs.drop 1) := fi_agg (by kernel_rfl) cs
@[go_sem] theorem T8f2p (k g off) : fieldAddrA Tryd.prog 8 2 (.ptr k g off) = some (.ptr k g (off + 2)) := fa_ptr (s := 0) (ft := 4) (by kernel_rfl) (by kernel_rfl) k g off
@[go_sem] theorem T8f2q (cs) : fieldAddrA Tryd.prog 8 2 (.fptr cs) = some (.fptr (cs.drop 2)) := fa_fptr (s := 0) (ft := 4) (by kernel_rfl) (by kernel_rfl) cs
@[go_sem] theorem T8f2v (cs) : fieldA Tryd.prog 8 2 (.agg cs) = takeT Tryd.prog 4 (cs.drop 2) := fi_agg (by kernel_rfl) cs
@[go_sem] theorem T8f3p (k g off) : fieldAddrA Tryd.prog 8 3 (.ptr k g off) = some (.ptr k g (off + 3)) := fa_ptr (s := 0) (ft := 6) (by kernel_rfl) (by kernel_rfl) k g off
@[go_sem] theorem T8f3q (cs) : fieldAddrA Tryd.prog 8 3 (.fptr cs) = some (.fptr (cs.drop 3)) := fa_fptr (s := 0) (ft := 6) (by kernel_rfl) (by kernel_rfl) cs
@[go_sem] theorem T8f3v (cs) : fieldA Tryd.prog 8 3 (.agg cs) = takeT Tryd.prog 6 (cs.drop 3) := fi_agg (by kernel_rfl) cs
@[go_sem] theorem T8bd (xs) : aBuild Tryd.prog 8 xs = (fillA (fun i => ([(0, 1), (1, 1), (2, 1), (3, 1)] : List (Nat × Nat))[i]?) [AV.int .i64 0, AV.int .i64 0, AV.bool false, AV.int .u8 0] xs).map .agg := by kernel_rfl
@[go_sem] theorem T8lf : eqLeaves Tryd.prog 8 = some [Leaf.int, Leaf.int, Leaf.bool, Leaf.int] := by kernel_rfl
@[go_sem] theorem T9s : tSize Tryd.prog 9 = some 1 := by kernel_rfl
@[go_sem] theorem T9a : tAgg Tryd.prog 9 = some false := by kernel_rfl
@[go_sem] theorem T9z : tZero Tryd.prog 9 = some [AV.str []] := by kernel_rfl
@[go_sem] theorem T9ix (x i) : aIndex Tryd.prog 9 (.str x) i = if 0 ≤ i then (x[i.toNat]?).map fun b => .int .u8 b.toNat else none := ixv_str (by kernel_rfl) x i
@[go_sem] theorem T9sl (x lo hi) : aSlice Tryd.prog 9 (.str x) lo hi = if 0 ≤ lo.getD 0 ∧ lo.getD 0 ≤ hi.getD x.length ∧ hi.getD x.length ≤ x.length then some (.str ((x.take (hi.getD x.length).toNat).drop (lo.getD 0).toNat)) else none := sl_str (by kernel_rfl) x lo hi
@[go_sem] theorem T9ln (o x) : aLen Tryd.prog o 9 (.str x) = some (.int .i64 x.length) := ln_str (by kernel_rfl) o x
@[go_sem] theorem T9u : Tryd.prog.underlying 9 = some .string := by kernel_rfl
@[go_sem] theorem T10s : tSize Tryd.prog 10 = some 1 := by kernel_rfl
@[go_sem] theorem T10a : tAgg Tryd.prog 10 = some false := by kernel_rfl
@[go_sem] theorem T10z : tZero Tryd.prog 10 = some [AV.str []] := by kernel_rfl
@[go_sem] theorem T10ix (x i) : aIndex Tryd.prog 10 (.str x) i = if 0 ≤ i then (x[i.toNat]?).map fun b => .int .u8 b.toNat else none := ixv_str (by kernel_rfl) x i
@[go_sem] theorem T10sl (x lo hi) : aSlice Tryd.prog 10 (.str x) lo hi = if 0 ≤ lo.getD 0 ∧ lo.getD 0 ≤ hi.getD x.length ∧ hi.getD x.length ≤ x.length then some (.str ((x.take (hi.getD x.length).toNat).drop (lo.getD 0).toNat)) else none := sl_str (by kernel_rfl) x lo hi
@[go_sem] theorem T10ln (o x) : aLen Tryd.prog o 10 (.str x) = some (.int .i64 x.length) := ln_str (by kernel_rfl) o x
@[go_sem] theorem T10u : Tryd.prog.underlying 10 = some .string := by kernel_rfl
@[go_sem] theorem T11s : tSize Tryd.prog 11 = some 1 := by kernel_rfl
@[go_sem] theorem T11a : tAgg Tryd.prog 11 = some false := by kernel_rfl
@[go_sem] theorem T11z : tZero Tryd.prog 11 = some [AV.str []] := by kernel_rfl
@[go_sem] theorem T11ix (x i) : aIndex Tryd.prog 11 (.str x) i = if 0 ≤ i then (x[i.toNat]?).map fun b => .int .u8 b.toNat else none := ixv_str (by kernel_rfl) x i
@[go_sem] theorem T11sl (x lo hi) : aSlice Tryd.prog 11 (.str x) lo hi = if 0 ≤ lo.getD 0 ∧ lo.getD 0 ≤ hi.getD x.length ∧ hi.getD x.length ≤ x.length then some (.str ((x.take (hi.getD x.length).toNat).drop (lo.getD 0).toNat)) else none := sl_str (by kernel_rfl) x lo hi
@[go_sem] theorem T11ln (o x) : aLen Tryd.prog o 11 (.str x) = some (.int .i64 x.length) := ln_str (by kernel_rfl) o x
@[go_sem] theorem T11u : Tryd.prog.underlying 11 = some .string := by kernel_rfl
@[go_sem] theorem T12s : tSize Tryd.prog 12 = some 1 := by kernel_rfl
@[go_sem] theorem T12a : tAgg Tryd.prog 12 = some false := by kernel_rfl
@[go_sem] theorem T12z : tZero Tryd.prog 12 = some [AV.int .u64 0] := by kernel_rfl
@[go_sem] theorem T12u : Tryd.prog.underlying 12 = some (.int .u64) := by kernel_rfl
@[go_sem] theorem T13s : tSize Tryd.prog 13 = some 2 := by kernel_rfl
@[go_sem] theorem T13a : tAgg Tryd.prog 13 = some true := by kernel_rfl
@[go_sem] theorem T13z : tZero Tryd.prog 13 = some [AV.str [], AV.int .u64 0] := by kernel_rfl
@[go_sem] theorem T13f0p (k g off) : fieldAddrA Tryd.prog 13 0 (.ptr k g off) = some (.ptr k g (off + 0)) := fa_ptr (s := 0) (ft := 9) (by kernel_rfl) (by kernel_rfl) k g off
@[go_sem] theorem T13f0q (cs) : fieldAddrA Tryd.prog 13 0 (.fptr cs) = some (.fptr (cs.drop 0)) := fa_fptr (s := 0) (ft := 9) (by kernel_rfl) (by kernel_rfl) cs
@[go_sem] theorem T13f0v (cs) : fieldA Tryd.prog 13 0 (.agg cs) = takeT Tryd.prog 9 (cs.drop 0) := fi_agg (by kernel_rfl) cs
@[go_sem] theorem T13f1p (k g off) : fieldAddrA Tryd.prog 13 1 (.ptr k g off) = some (.ptr k g (off + 1)) := fa_ptr (s := 0) (ft := 12) (by kernel_rfl) (by kernel_rfl) k g off
@[go_sem] theorem T13f1q (cs) : fieldAddrA Tryd.prog 13 1 (.fptr cs) = some (.fptr (cs.drop 1)) := fa_fptr (s := 0) (ft := 12) (by kernel_rfl) (by kernel_rfl) cs
@[go_sem] theorem T13f1v (cs) : fieldA Tryd.prog 13 1 (.agg cs) = takeT Tryd.prog 12 (cs.drop 1) := fi_agg (by kernel_rfl) cs
@[go_sem] theorem T13bd (xs) : aBuild Tryd.prog 13 xs = (fillA (fun i => ([(0, 1), (1, 1)] : List (Nat × Nat))[i]?) [AV.str [], AV.int .u64 0] xs).map .agg := by kernel_rfl
@[go_sem] theorem T14s : tSize Tryd.prog 14 = some 2 := by kernel_rfl
@[go_sem] theorem T14a : tAgg Tryd.prog 14 = some true := by kernel_rfl
@[go_sem] theorem T14z : tZero Tryd.prog 14 = some [AV.str [], AV.int .u64 0] := by kernel_rfl
@[go_sem] theorem T14f0p (k g off) : fieldAddrA Tryd.prog 14 0 (.ptr k g off) = some (.ptr k g (off + 0)) := fa_ptr (s := 0) (ft := 9) (by kernel_rfl) (by kernel_rfl) k g off
@[go_sem] theorem T14f0q (cs) : fieldAddrA Tryd.prog 14 0 (.fptr cs) = some (.fptr (cs.drop 0)) := fa_fptr (s := 0) (ft := 9) (by kernel_rfl) (by kernel_rfl) cs
@[go_sem] theorem T14f0v (cs) : fieldA Tryd.prog 14 0 (.agg cs) = takeT Tryd.prog 9 (cs.drop 0) := fi_agg (by kernel_rfl) cs
@[go_sem] theorem T14f1p (k g off) : fieldAddrA Tryd.prog 14 1 (.ptr k g off) = some (.ptr k g (off + 1)) := fa_ptr (s := 0) (ft := 12) (by kernel_rfl) (by kernel_rfl) k g off
@[go_sem] theorem T14f1q (cs) : fieldAddrA Tryd.prog 14 1 (.fptr cs) = some (.fptr (cs.drop 1)) := fa_fptr (s := 0) (ft := 12) (by kernel_rfl) (by kernel_rfl) cs
@[go_sem] theorem T14f1v (cs) : fieldA Tryd.prog 14 1 (.agg cs) = takeT Tryd.prog 12 (cs.drop 1) := fi_agg (by kernel_rfl) cs
@[go_sem] theorem T14bd (xs) : aBuild Tryd.prog 14 xs = (fillA (fun i => ([(0, 1), (1, 1)] : List (Nat × Nat))[i]?) [AV.str [], AV.int .u64 0] xs).map .agg := by kernel_rfl
@[go_sem] theorem T15s : tSize Tryd.prog 15 = some 1 := by kernel_rfl
@[go_sem] theorem T15a : tAgg Tryd.prog 15 = some false := by kernel_rfl
@[go_sem] theorem T15z : tZero Tryd.prog 15 = some [AV.nilp] := by kernel_rfl
@[go_sem] theorem T16s : tSize Tryd.prog 16 = some 1 := by kernel_rfl
@[go_sem] theorem T16a : tAgg Tryd.prog 16 = some false := by kernel_rfl
@[go_sem] theorem T16z : tZero Tryd.prog 16 = some [AV.nilp] := by kernel_rfl
@[go_sem] theorem T17s : tSize Tryd.prog 17 = some 1 := by kernel_rfl
@[go_sem] theorem T17a : tAgg Tryd.prog 17 = some false := by kernel_rfl
@[go_sem] theorem T17z : tZero Tryd.prog 17 = some [AV.nilp] := by kernel_rfl
@[go_sem] theorem T18s : tSize Tryd.prog 18 = some 1 := by kernel_rfl
@[go_sem] theorem T18a : tAgg Tryd.prog 18 = some true := by kernel_rfl
@[go_sem] theorem T18z : tZero Tryd.prog 18 = some [AV.nilp] := by kernel_rfl
@[go_sem] theorem T18f0p (k g off) : fieldAddrA Tryd.prog 18 0 (.ptr k g off) = some (.ptr k g (off + 0)) := fa_ptr (s := 0) (ft := 17) (by kernel_rfl) (by kernel_rfl) k g off
@[go_sem] theorem T18f0q (cs) : fieldAddrA Tryd.prog 18 0 (.fptr cs) = some (.fptr (cs.drop 0)) := fa_fptr (s := 0) (ft := 17) (by kernel_rfl) (by kernel_rfl) cs
@[go_sem] theorem T18f0v (cs) : fieldA Tryd.prog 18 0 (.agg cs) = takeT Tryd.prog 17 (cs.drop 0) := fi_agg (by kernel_rfl) cs
@[go_sem] theorem T18bd (xs) : aBuild Tryd.prog 18 xs = (fillA (fun i => ([(0, 1)] : List (Nat × Nat))[i]?) [AV.nilp] xs).map .agg := by kernel_rfl
@[go_sem] theorem T19s : tSize Tryd.prog 19 = some 1 := by kernel_rfl
@[go_sem] theorem T19a : tAgg Tryd.prog 19 = some true := by kernel_rfl
@[go_sem] theorem T19z : tZero Tryd.prog 19 = some [AV.nilp] := by kernel_rfl
@[go_sem] theorem T19f0p (k g off) : fieldAddrA Tryd.prog 19 0 (.ptr k g off) = some (.ptr k g (off + 0)) := fa_ptr (s := 0) (ft := 17) (by kernel_rfl) (by kernel_rfl) k g off
@[go_sem] theorem T19f0q (cs) : fieldAddrA Tryd.prog 19 0 (.fptr cs) = some (.fptr (cs.drop 0)) := fa_fptr (s := 0) (ft := 17) (by kernel_rfl) (by kernel_rfl) cs
@[go_sem] theorem T19f0v (cs) : fieldA Tryd.prog 19 0 (.agg cs) = takeT Tryd.prog 17 (cs.drop 0) := fi_agg (by kernel_rfl) cs
@[go_sem] theorem T19bd (xs) : aBuild Tryd.prog 19 xs = (fillA (fun i => ([(0, 1)] : List (Nat × Nat))[i]?) [AV.nilp] xs).map .agg := by kernel_rfl
@[go_sem] theorem T21s : tSize Tryd.prog 21 = some 1 := by kernel_rfl
@[go_sem] theorem T21a : tAgg Tryd.prog 21 = some false := by kernel_rfl
@[go_sem] theorem T21z : tZero Tryd.prog 21 = some [AV.int .i32 0] := by kernel_rfl
@[go_sem] theorem T21u : Tryd.prog.underlying 21 = some (.int .i32) := by kernel_rfl
@[go_sem] theorem T22s : tSize Tryd.prog 22 = some 1 := by kernel_rfl
@[go_sem] theorem T22a : tAgg Tryd.prog 22 = some false := by kernel_rfl
@[go_sem] theorem T22z : tZero Tryd.prog 22 = some [AV.nil] := by kernel_rfl
@[go_sem] theorem T22ln0 (o) : aLen Tryd.prog o 22 .nil = some (.int .i64 0) := ln_nil (e := 3) (by kernel_rfl) o
@[go_sem] theorem T22ln1 (o n cs) : aLen Tryd.prog o 22 (.sl n cs) = some (.int .i64 n) := ln_sl (e := 3) (by kernel_rfl) o n cs
@[go_sem] theorem T22ln2 (o k g off n) : aLen Tryd.prog o 22 (.ref k g off n) = some (.int .i64 n) := ln_ref (e := 3) (by kernel_rfl) o k g off n
@[go_sem] theorem T22ix1 (n cs i) : aIndexAddr Tryd.prog 22 (.sl n cs) i = if 0 ≤ i ∧ i < (n : Int) then some (.fptr (cs.drop (i.toNat * 1))) else none := ixs_sl (s := 1) (by kernel_rfl) n cs i
@[go_sem] theorem T22ix2 (k g off n i) : aIndexAddr Tryd.prog 22 (.ref k g off n) i = if 0 ≤ i ∧ i < (n : Int) then some (.ptr k g (off + i.toNat * 1)) else none := ixs_ref (s := 1) (by kernel_rfl) k g off n i
@[go_sem] theorem T22sl1 (n cs lo hi) : aSlice Tryd.prog 22 (.sl n cs) lo hi = if 0 ≤ lo.getD 0 ∧ lo.getD 0 ≤ hi.getD n ∧ hi.getD n ≤ n then some (.sl ((hi.getD n).toNat - (lo.getD 0).toNat) ((cs.take ((hi.getD n).toNat * 1)).drop ((lo.getD 0).toNat * 1))) else none := sl_sl (s := 1) (by kernel_rfl) n cs lo hi
@[go_sem] theorem T22sl2 (k g off n lo hi) : aSlice Tryd.prog 22 (.ref k g off n) lo hi = if 0 ≤ lo.getD 0 ∧ lo.getD 0 ≤ hi.getD n ∧ hi.getD n ≤ n then some (.ref k g (off + (lo.getD 0).toNat * 1) ((hi.getD n).toNat - (lo.getD 0).toNat)) else none := sl_ref (s := 0) (by kernel_rfl) k g off n lo hi
@[go_sem] theorem T22cp (k g off n x o nx) : aCopy Tryd.prog 22 (.ref k g off n) x ⟨o, nx⟩ = (srcOf o x).bind fun q => (rowIf (o k) g).bind (copyR k off n 1 q.1 q.2 o nx) := cp_ref (by kernel_rfl) k g off n x o nx
@[go_sem] theorem T22ms (tg l c o nx) : aMakeSlice Tryd.prog tg 22 l c ⟨o, nx⟩ = if 0 ≤ l ∧ l ≤ c ∧ c * 8 ≤ maxB ∧ c ≤ maxB then some (.ref tg tg 0 l.toNat, ⟨upd o tg (.row ⟨3, 1, tg, false, true, rep [AV.int .i64 0] l.toNat⟩), nx⟩) else none := ms_eq (e := 3) (s := 0) (b := 8) (z := [AV.int .i64 0]) (by kernel_rfl) (by kernel_rfl) (by kernel_rfl) (by kernel_rfl) rfl tg l c o nx
@[go_sem] theorem T22bs (tg n ps o nx) : aBuildSlice Tryd.prog tg 22 n ps ⟨o, nx⟩ = if n * 1 ≤ 16777216 then (fillA (fun i => some (i * 1, 1)) (rep [AV.int .i64 0] n) ps).map (fun cs => (.ref tg tg 0 n, ⟨upd o tg (.row ⟨3, 1, tg, false, true, cs⟩), nx⟩)) else none := bs_eq (e := 3) (s := 0) (z := [AV.int .i64 0]) (by kernel_rfl) (by kernel_rfl) (by kernel_rfl) rfl tg n ps o nx
@[go_sem] theorem T22ap (tg x y o nx) : aAppend Tryd.prog tg 22 22 x y ⟨o, nx⟩ = (srcOf o y).bind fun q => appW tg 3 1 8 x q.1 q.2 o nx := ap_eq (e := 3) (s := 0) (b := 7) (z := [AV.int .i64 0]) (by kernel_rfl) (by kernel_rfl) (by kernel_rfl) (by kernel_rfl) rfl (by kernel_rfl) tg x y o nx
@[go_sem] theorem T24s : tSize Tryd.prog 24 = some 1 := by kernel_rfl
@[go_sem] theorem T24a : tAgg Tryd.prog 24 = some false := by kernel_rfl
@[go_sem] theorem T24z : tZero Tryd.prog 24 = some [AV.nil] := by kernel_rfl
@[go_sem] theorem T24ln0 (o) : aLen Tryd.prog o 24 .nil = some (.int .i64 0) := ln_nil (e := 54) (by kernel_rfl) o
@[go_sem] theorem T24ln1 (o n cs) : aLen Tryd.prog o 24 (.sl n cs) = some (.int .i64 n) := ln_sl (e := 54) (by kernel_rfl) o n cs
@[go_sem] theorem T24ln2 (o k g off n) : aLen Tryd.prog o 24 (.ref k g off n) = some (.int .i64 n) := ln_ref (e := 54) (by kernel_rfl) o k g off n
@[go_sem] theorem T24ix1 (n cs i) : aIndexAddr Tryd.prog 24 (.sl n cs) i = if 0 ≤ i ∧ i < (n : Int) then some (.fptr (cs.drop (i.toNat * 5))) else none := ixs_sl (s := 5) (by kernel_rfl) n cs i
@[go_sem] theorem T24ix2 (k g off n i) : aIndexAddr Tryd.prog 24 (.ref k g off n) i = if 0 ≤ i ∧ i < (n : Int) then some (.ptr k g (off + i.toNat * 5)) else none := ixs_ref (s := 5) (by kernel_rfl) k g off n i
@[go_sem] theorem T24sl1 (n cs lo hi) : aSlice Tryd.prog 24 (.sl n cs) lo hi = if 0 ≤ lo.getD 0 ∧ lo.getD 0 ≤ hi.getD n ∧ hi.getD n ≤ n then some (.sl ((hi.getD n).toNat - (lo.getD 0).toNat) ((cs.take ((hi.getD n).toNat * 5)).drop ((lo.getD 0).toNat * 5))) else none := sl_sl (s := 5) (by kernel_rfl) n cs lo hi
@[go_sem] theorem T24sl2 (k g off n lo hi) : aSlice Tryd.prog 24 (.ref k g off n) lo hi = if 0 ≤ lo.getD 0 ∧ lo.getD 0 ≤ hi.getD n ∧ hi.getD n ≤ n then some (.ref k g (off + (lo.getD 0).toNat * 5) ((hi.getD n).toNat - (lo.getD 0).toNat)) else none := sl_ref (s := 4) (by kernel_rfl) k g off n lo hi
@[go_sem] theorem T24cp (k g off n x o nx) : aCopy Tryd.prog 24 (.ref k g off n) x ⟨o, nx⟩ = (srcOf o x).bind fun q => (rowIf (o k) g).bind (copyR k off n 5 q.1 q.2 o nx) := cp_ref (by kernel_rfl) k g off n x o nx
@[go_sem] theorem T24ms (tg l c o nx) : aMakeSlice Tryd.prog tg 24 l c ⟨o, nx⟩ = if 0 ≤ l ∧ l ≤ c ∧ c * 40 ≤ maxB ∧ c ≤ maxB then some (.ref tg tg 0 l.toNat, ⟨upd o tg (.row ⟨54, 5, tg, false, true, rep [AV.int .i64 0, AV.int .i64 0, AV.int .i64 0, AV.int .i64 0, AV.int .i64 0] l.toNat⟩), nx⟩) else none := ms_eq (e := 54) (s := 4) (b := 40) (z := [AV.int .i64 0, AV.int .i64 0, AV.int .i64 0, AV.int .i64 0, AV.int .i64 0]) (by kernel_rfl) (by kernel_rfl) (by kernel_rfl) (by kernel_rfl) rfl tg l c o nx
@[go_sem] theorem T24bs (tg n ps o nx) : aBuildSlice Tryd.prog tg 24 n ps ⟨o, nx⟩ = if n * 5 ≤ 16777216 then (fillA (fun i => some (i * 5, 5)) (rep [AV.int .i64 0, AV.int .i64 0, AV.int .i64 0, AV.int .i64 0, AV.int .i64 0] n) ps).map (fun cs => (.ref tg tg 0 n, ⟨upd o tg (.row ⟨54, 5, tg, false, true, cs⟩), nx⟩)) else none := bs_eq (e := 54) (s := 4) (z := [AV.int .i64 0, AV.int .i64 0, AV.int .i64 0, AV.int .i64 0, AV.int .i64 0]) (by kernel_rfl) (by kernel_rfl) (by kernel_rfl) rfl tg n ps o nx
@[go_sem] theorem T24ap (tg x y o nx) : aAppend Tryd.prog tg 24 24 x y ⟨o, nx⟩ = (srcOf o y).bind fun q => appW tg 54 5 40 x q.1 q.2 o nx := ap_eq (e := 54) (s := 4) (b := 39) (z := [AV.int .i64 0, AV.int .i64 0, AV.int .i64 0, AV.int .i64 0, AV.int .i64 0]) (by kernel_rfl) (by kernel_rfl) (by kernel_rfl) (by kernel_rfl) rfl (by kernel_rfl) tg x y o nx
@[go_sem] theorem T25s : tSize Tryd.prog 25 = some 1 := by kernel_rfl
@[go_sem] theorem T25a : tAgg Tryd.prog 25 = some false := by kernel_rfl
@[go_sem] theorem T25z : tZero Tryd.prog 25 = some [AV.nil] := by kernel_rfl
@[go_sem] theorem T25ln0 (o) : aLen Tryd.prog o 25 .nil = some (.int .i64 0) := ln_nil (e := 4) (by kernel_rfl) o
@[go_sem] theorem T25ln1 (o n cs) : aLen Tryd.prog o 25 (.sl n cs) = some (.int .i64 n) := ln_sl (e := 4) (by kernel_rfl) o n cs
@[go_sem] theorem T25ln2 (o k g off n) : aLen Tryd.prog o 25 (.ref k g off n) = some (.int .i64 n) := ln_ref (e := 4) (by kernel_rfl) o k g off n
@[go_sem] theorem T25ix1 (n cs i) : aIndexAddr Tryd.prog 25 (.sl n cs) i = if 0 ≤ i ∧ i < (n : Int) then some (.fptr (cs.drop (i.toNat * 1))) else none := ixs_sl (s := 1) (by kernel_rfl) n cs i
@[go_sem] theorem T25ix2 (k g off n i) : aIndexAddr Tryd.prog 25 (.ref k g off n) i = if 0 ≤ i ∧ i < (n : Int) then some (.ptr k g (off + i.toNat * 1)) else none := ixs_ref (s := 1) (by kernel_rfl) k g off n i
@[go_sem] theorem T25sl1 (n cs lo hi) : aSlice Tryd.prog 25 (.sl n cs) lo hi = if 0 ≤ lo.getD 0 ∧ lo.getD 0 ≤ hi.getD n ∧ hi.getD n ≤ n then some (.sl ((hi.getD n).toNat - (lo.getD 0).toNat) ((cs.take ((hi.getD n).toNat * 1)).drop ((lo.getD 0).toNat * 1))) else none := sl_sl (s := 1) (by kernel_rfl) n cs lo hi
@[go_sem] theorem T25sl2 (k g off n lo hi) : aSlice Tryd.prog 25 (.ref k g off n) lo hi = if 0 ≤ lo.getD 0 ∧ lo.getD 0 ≤ hi.getD n ∧ hi.getD n ≤ n then some (.ref k g (off + (lo.getD 0).toNat * 1) ((hi.getD n).toNat - (lo.getD 0).toNat)) else none := sl_ref (s := 0) (by kernel_rfl) k g off n lo hi
@[go_sem] theorem T25cp (k g off n x o nx) : aCopy Tryd.prog 25 (.ref k g off n) x ⟨o, nx⟩ = (srcOf o x).bind fun q => (rowIf (o k) g).bind (copyR k off n 1 q.1 q.2 o nx) := cp_ref (by kernel_rfl) k g off n x o nx
@[go_sem] theorem T25ms (tg l c o nx) : aMakeSlice Tryd.prog tg 25 l c ⟨o, nx⟩ = if 0 ≤ l ∧ l ≤ c ∧ c * 1 ≤ maxB ∧ c ≤ maxB then some (.ref tg tg 0 l.toNat, ⟨upd o tg (.row ⟨4, 1, tg, false, true, rep [AV.bool false] l.toNat⟩), nx⟩) else none := ms_eq (e := 4) (s := 0) (b := 1) (z := [AV.bool false]) (by kernel_rfl) (by kernel_rfl) (by kernel_rfl) (by kernel_rfl) rfl tg l c o nx
@[go_sem] theorem T25bs (tg n ps o nx) : aBuildSlice Tryd.prog tg 25 n ps ⟨o, nx⟩ = if n * 1 ≤ 16777216 then (fillA (fun i => some (i * 1, 1)) (rep [AV.bool false] n) ps).map (fun cs => (.ref tg tg 0 n, ⟨upd o tg (.row ⟨4, 1, tg, false, true, cs⟩), nx⟩)) else none := bs_eq (e := 4) (s := 0) (z := [AV.bool false]) (by kernel_rfl) (by kernel_rfl) (by kernel_rfl) rfl tg n ps o nx
@[go_sem] theorem T25ap (tg x y o nx) : aAppend Tryd.prog tg 25 25 x y ⟨o, nx⟩ = (srcOf o y).bind fun q => appW tg 4 1 1 x q.1 q.2 o nx := ap_eq (e := 4) (s := 0) (b := 0) (z := [AV.bool false]) (by kernel_rfl) (by kernel_rfl) (by kernel_rfl) (by kernel_rfl) rfl (by kernel_rfl) tg x y o nx
@[go_sem] theorem T26s : tSize Tryd.prog 26 = some 2 := by kernel_rfl
@[go_sem] theorem T26a : tAgg Tryd.prog 26 = some true := by kernel_rfl
@[go_sem] theorem T26z : tZero Tryd.prog 26 = some [AV.nil, AV.nil] := by kernel_rfl
@[go_sem] theorem T26f0p (k g off) : fieldAddrA Tryd.prog 26 0 (.ptr k g off) = some (.ptr k g (off + 0)) := fa_ptr (s := 0) (ft := 24) (by kernel_rfl) (by kernel_rfl) k g off
@[go_sem] theorem T26f0q (cs) : fieldAddrA Tryd.prog 26 0 (.fptr cs) = some (.fptr (cs.drop 0)) := fa_fptr (s := 0) (ft := 24) (by kernel_rfl) (by kernel_rfl) cs
@[go_sem] theorem T26f0v (cs) : fieldA Tryd.prog 26 0 (.agg cs) = takeT Tryd.prog 24 (cs.drop 0) := fi_agg (by kernel_rfl) cs
@[go_sem] theorem T26f1p (k g off) : fieldAddrA Tryd.prog 26 1 (.ptr k g off) = some (.ptr k g (off + 1)) := fa_ptr (s := 0) (ft := 25) (by kernel_rfl) (by kernel_rfl) k g off
@[go_sem] theorem T26f1q (cs) : fieldAddrA Tryd.prog 26 1 (.fptr cs) = some (.fptr (cs.drop 1)) := fa_fptr (s := 0) (ft := 25) (by kernel_rfl) (by kernel_rfl) cs
@[go_sem] theorem T26f1v (cs) : fieldA Tryd.prog 26 1 (.agg cs) = takeT Tryd.prog 25 (cs.drop 1) := fi_agg (by kernel_rfl) cs
@[go_sem] theorem T26bd (xs) : aBuild Tryd.prog 26 xs = (fillA (fun i => ([(0, 1), (1, 1)] : List (Nat × Nat))[i]?) [AV.nil, AV.nil] xs).map .agg := by kernel_rfl
@[go_sem] theorem T27s : tSize Tryd.prog 27 = some 2 := by kernel_rfl
@[go_sem] theorem T27a : tAgg Tryd.prog 27 = some true := by kernel_rfl
@[go_sem] theorem T27z : tZero Tryd.prog 27 = some [AV.nil, AV.nil] := by kernel_rfl
@[go_sem] theorem T27f0p (k g off) : fieldAddrA Tryd.prog 27 0 (.ptr k g off) = some (.ptr k g (off + 0)) := fa_ptr (s := 0) (ft := 24) (by kernel_rfl) (by kernel_rfl) k g off
@[go_sem] theorem T27f0q (cs) : fieldAddrA Tryd.prog 27 0 (.fptr cs) = some (.fptr (cs.drop 0)) := fa_fptr (s := 0) (ft := 24) (by kernel_rfl) (by kernel_rfl) cs
@[go_sem] theorem T27f0v (cs) : fieldA Tryd.prog 27 0 (.agg cs) = takeT Tryd.prog 24 (cs.drop 0) := fi_agg (by kernel_rfl) cs
@[go_sem] theorem T27f1p (k g off) : fieldAddrA Tryd.prog 27 1 (.ptr k g off) = some (.ptr k g (off + 1)) := fa_ptr (s := 0) (ft := 25) (by kernel_rfl) (by kernel_rfl) k g off
@[go_sem] theorem T27f1q (cs) : fieldAddrA Tryd.prog 27 1 (.fptr cs) = some (.fptr (cs.drop 1)) := fa_fptr (s := 0) (ft := 25) (by kernel_rfl) (by kernel_rfl) cs
@[go_sem] theorem T27f1v (cs) : fieldA Tryd.prog 27 1 (.agg cs) = takeT Tryd.prog 25 (cs.drop 1) := fi_agg (by kernel_rfl) cs
@[go_sem] theorem T27bd (xs) : aBuild Tryd.prog 27 xs = (fillA (fun i => ([(0, 1), (1, 1)] : List (Nat × Nat))[i]?) [AV.nil, AV.nil] xs).map .agg := by kernel_rfl
@[go_sem] theorem T33s : tSize Tryd.prog 33 = some 1 := by kernel_rfl
@[go_sem] theorem T33a : tAgg Tryd.prog 33 = some false := by kernel_rfl
@[go_sem] theorem T33z : tZero Tryd.prog 33 = some [AV.nil] := by kernel_rfl
@[go_sem] theorem T33ln0 (o) : aLen Tryd.prog o 33 .nil = some (.int .i64 0) := ln_nil (e := 75) (by kernel_rfl) o
@[go_sem] theorem T33ln1 (o n cs) : aLen Tryd.prog o 33 (.sl n cs) = some (.int .i64 n) := ln_sl (e := 75) (by kernel_rfl) o n cs
@[go_sem] theorem T33ln2 (o k g off n) : aLen Tryd.prog o 33 (.ref k g off n) = some (.int .i64 n) := ln_ref (e := 75) (by kernel_rfl) o k g off n
@[go_sem] theorem T33ix1 (n cs i) : aIndexAddr Tryd.prog 33 (.sl n cs) i = if 0 ≤ i ∧ i < (n : Int) then some (.fptr (cs.drop (i.toNat * 3))) else none := ixs_sl (s := 3) (by kernel_rfl) n cs i
@[go_sem] theorem T33ix2 (k g off n i) : aIndexAddr Tryd.prog 33 (.ref k g off n) i = if 0 ≤ i ∧ i < (n : Int) then some (.ptr k g (off + i.toNat * 3)) else none := ixs_ref (s := 3) (by kernel_rfl) k g off n i
@[go_sem] theorem T33sl1 (n cs lo hi) : aSlice Tryd.prog 33 (.sl n cs) lo hi = if 0 ≤ lo.getD 0 ∧ lo.getD 0 ≤ hi.getD n ∧ hi.getD n ≤ n then some (.sl ((hi.getD n).toNat - (lo.getD 0).toNat) ((cs.take ((hi.getD n).toNat * 3)).drop ((lo.getD 0).toNat * 3))) else none := sl_sl (s := 3) (by kernel_rfl) n cs lo hi
@[go_sem] theorem T33sl2 (k g off n lo hi) : aSlice Tryd.prog 33 (.ref k g off n) lo hi = if 0 ≤ lo.getD 0 ∧ lo.getD 0 ≤ hi.getD n ∧ hi.getD n ≤ n then some (.ref k g (off + (lo.getD 0).toNat * 3) ((hi.getD n).toNat - (lo.getD 0).toNat)) else none := sl_ref (s := 2) (by kernel_rfl) k g off n lo hi
@[go_sem] theorem T33cp (k g off n x o nx) : aCopy Tryd.prog 33 (.ref k g off n) x ⟨o, nx⟩ = (srcOf o x).bind fun q => (rowIf (o k) g).bind (copyR k off n 3 q.1 q.2 o nx) := cp_ref (by kernel_rfl) k g off n x o nx
@[go_sem] theorem T33ms (tg l c o nx) : aMakeSlice Tryd.prog tg 33 l c ⟨o, nx⟩ = if 0 ≤ l ∧ l ≤ c ∧ c * 40 ≤ maxB ∧ c ≤ maxB then some (.ref tg tg 0 l.toNat, ⟨upd o tg (.row ⟨75, 3, tg, false, true, rep [AV.int .i64 0, AV.int .i64 0, AV.nil] l.toNat⟩), nx⟩) else none := ms_eq (e := 75) (s := 2) (b := 40) (z := [AV.int .i64 0, AV.int .i64 0, AV.nil]) (by kernel_rfl) (by kernel_rfl) (by kernel_rfl) (by kernel_rfl) rfl tg l c o nx
@[go_sem] theorem T33bs (tg n ps o nx) : aBuildSlice Tryd.prog tg 33 n ps ⟨o, nx⟩ = if n * 3 ≤ 16777216 then (fillA (fun i => some (i * 3, 3)) (rep [AV.int .i64 0, AV.int .i64 0, AV.nil] n) ps).map (fun cs => (.ref tg tg 0 n, ⟨upd o tg (.row ⟨75, 3, tg, false, true, cs⟩), nx⟩)) else none := bs_eq (e := 75) (s := 2) (z := [AV.int .i64 0, AV.int .i64 0, AV.nil]) (by kernel_rfl) (by kernel_rfl) (by kernel_rfl) rfl tg n ps o nx
@[go_sem] theorem T33ap (tg x y o nx) : aAppend Tryd.prog tg 33 33 x y ⟨o, nx⟩ = (srcOf o y).bind fun q => appW tg 75 3 40 x q.1 q.2 o nx := ap_eq (e := 75) (s := 2) (b := 39) (z := [AV.int .i64 0, AV.int .i64 0, AV.nil]) (by kernel_rfl) (by kernel_rfl) (by kernel_rfl) (by kernel_rfl) rfl (by kernel_rfl) tg x y o nx
@[go_sem] theorem T35s : tSize Tryd.prog 35 = some 1 := by kernel_rfl
@[go_sem] theorem T35a : tAgg Tryd.prog 35 = some false := by kernel_rfl
@[go_sem] theorem T35z : tZero Tryd.prog 35 = some [AV.nil] := by kernel_rfl
@[go_sem] theorem T35ln0 (o) : aLen Tryd.prog o 35 .nil = some (.int .i64 0) := ln_nil (e := 37) (by kernel_rfl) o
@[go_sem] theorem T35ln1 (o n cs) : aLen Tryd.prog o 35 (.sl n cs) = some (.int .i64 n) := ln_sl (e := 37) (by kernel_rfl) o n cs
@[go_sem] theorem T35ln2 (o k g off n) : aLen Tryd.prog o 35 (.ref k g off n) = some (.int .i64 n) := ln_ref (e := 37) (by kernel_rfl) o k g off n
@[go_sem] theorem T35ix1 (n cs i) : aIndexAddr Tryd.prog 35 (.sl n cs) i = if 0 ≤ i ∧ i < (n : Int) then some (.fptr (cs.drop (i.toNat * 5))) else none := ixs_sl (s := 5) (by kernel_rfl) n cs i
@[go_sem] theorem T35ix2 (k g off n i) : aIndexAddr Tryd.prog 35 (.ref k g off n) i = if 0 ≤ i ∧ i < (n : Int) then some (.ptr k g (off + i.toNat * 5)) else none := ixs_ref (s := 5) (by kernel_rfl) k g off n i
@[go_sem] theorem T35sl1 (n cs lo hi) : aSlice Tryd.prog 35 (.sl n cs) lo hi = if 0 ≤ lo.getD 0 ∧ lo.getD 0 ≤ hi.getD n ∧ hi.getD n ≤ n then some (.sl ((hi.getD n).toNat - (lo.getD 0).toNat) ((cs.take ((hi.getD n).toNat * 5)).drop ((lo.getD 0).toNat * 5))) else none := sl_sl (s := 5) (by kernel_rfl) n cs lo hi
@[go_sem] theorem T35sl2 (k g off n lo hi) : aSlice Tryd.prog 35 (.ref k g off n) lo hi = if 0 ≤ lo.getD 0 ∧ lo.getD 0 ≤ hi.getD n ∧ hi.getD n ≤ n then some (.ref k g (off + (lo.getD 0).toNat * 5) ((hi.getD n).toNat - (lo.getD 0).toNat)) else none := sl_ref (s := 4) (by kernel_rfl) k g off n lo hi
@[go_sem] theorem T35cp (k g off n x o nx) : aCopy Tryd.prog 35 (.ref k g off n) x ⟨o, nx⟩ = (srcOf o x).bind fun q => (rowIf (o k) g).bind (copyR k off n 5 q.1 q.2 o nx) := cp_ref (by kernel_rfl) k g off n x o nx
@[go_sem] theorem T35ms (tg l c o nx) : aMakeSlice Tryd.prog tg 35 l c ⟨o, nx⟩ = if 0 ≤ l ∧ l ≤ c ∧ c * 56 ≤ maxB ∧ c ≤ maxB then some (.ref tg tg 0 l.toNat, ⟨upd o tg (.row ⟨37, 5, tg, false, true, rep [AV.int .i64 0, AV.int .i64 0, AV.int .i64 0, AV.int .i64 0, AV.nil] l.toNat⟩), nx⟩) else none := ms_eq (e := 37) (s := 4) (b := 56) (z := [AV.int .i64 0, AV.int .i64 0, AV.int .i64 0, AV.int .i64 0, AV.nil]) (by kernel_rfl) (by kernel_rfl) (by kernel_rfl) (by kernel_rfl) rfl tg l c o nx
@[go_sem] theorem T35bs (tg n ps o nx) : aBuildSlice Tryd.prog tg 35 n ps ⟨o, nx⟩ = if n * 5 ≤ 16777216 then (fillA (fun i => some (i * 5, 5)) (rep [AV.int .i64 0, AV.int .i64 0, AV.int .i64 0, AV.int .i64 0, AV.nil] n) ps).map (fun cs => (.ref tg tg 0 n, ⟨upd o tg (.row ⟨37, 5, tg, false, true, cs⟩), nx⟩)) else none := bs_eq (e := 37) (s := 4) (z := [AV.int .i64 0, AV.int .i64 0, AV.int .i64 0, AV.int .i64 0, AV.nil]) (by kernel_rfl) (by kernel_rfl) (by kernel_rfl) rfl tg n ps o nx
@[go_sem] theorem T35ap (tg x y o nx) : aAppend Tryd.prog tg 35 35 x y ⟨o, nx⟩ = (srcOf o y).bind fun q => appW tg 37 5 56 x q.1 q.2 o nx := ap_eq (e := 37) (s := 4) (b := 55) (z := [AV.int .i64 0, AV.int .i64 0, AV.int .i64 0, AV.int .i64 0, AV.nil]) (by kernel_rfl) (by kernel_rfl) (by kernel_rfl) (by kernel_rfl) rfl (by kernel_rfl) tg x y o nx
@[go_sem] theorem T36s : tSize Tryd.prog 36 = some 5 := by kernel_rfl
@[go_sem] theorem T36a : tAgg Tryd.prog 36 = some true := by kernel_rfl
@[go_sem] theorem T36z : tZero Tryd.prog 36 = some [AV.int .i64 0, AV.int .i64 0, AV.int .i64 0, AV.int .i64 0, AV.nil] := by kernel_rfl
@[go_sem] theorem T36f0p (k g off) : fieldAddrA Tryd.prog 36 0 (.ptr k g off) = some (.ptr k g (off + 0)) := fa_ptr (s := 0) (ft := 3) (by kernel_rfl) (by kernel_rfl) k g off
@[go_sem] theorem T36f0q (cs) : fieldAddrA Tryd.prog 36 0 (.fptr cs) = some (.fptr (cs.drop 0)) := fa_fptr (s := 0) (ft := 3) (by kernel_rfl) (by kernel_rfl) cs
@[go_sem] theorem T36f0v (cs) : fieldA Tryd.prog 36 0 (.agg cs) = takeT Tryd.prog 3 (cs.drop 0) := fi_agg (by kernel_rfl) cs
@[go_sem] theorem T36f1p (k g off) : fieldAddrA Tryd.prog 36 1 (.ptr k g off) = some (.ptr k g (off + 1)) := fa_ptr (s := 0) (ft := 3) (by kernel_rfl) (by kernel_rfl) k g off
@[go_sem] theorem T36f1q (cs) : fieldAddrA Tryd.prog 36 1 (.fptr cs) = some (.fptr (cs.drop 1)) := fa_fptr (s := 0) (ft := 3) (by kernel_rfl) (by kernel_rfl) cs
@[go_sem] theorem T36f1v (cs) : fieldA Tryd.prog 36 1 (.agg cs) = takeT Tryd.prog 3 (cs.drop 1) := fi_agg (by kernel_rfl) cs
@[go_sem] theorem T36f2p (k g off) : fieldAddrA Tryd.prog 36 2 (.ptr k g off) = some (.ptr k g (off + 2)) := fa_ptr (s := 0) (ft := 3) (by kernel_rfl) (by kernel_rfl) k g off
@[go_sem] theorem T36f2q (cs) : fieldAddrA Tryd.prog 36 2 (.fptr cs) = some (.fptr (cs.drop 2)) := fa_fptr (s := 0) (ft := 3) (by kernel_rfl) (by kernel_rfl) cs
@[go_sem] theorem T36f2v (cs) : fieldA Tryd.prog 36 2 (.agg cs) = takeT Tryd.prog 3 (cs.drop 2) := fi_agg (by kernel_rfl) cs
@[go_sem] theorem T36f3p (k g off) : fieldAddrA Tryd.prog 36 3 (.ptr k g off) = some (.ptr k g (off + 3)) := fa_ptr (s := 0) (ft := 3) (by kernel_rfl) (by kernel_rfl) k g off
@[go_sem] theorem T36f3q (cs) : fieldAddrA Tryd.prog 36 3 (.fptr cs) = some (.fptr (cs.drop 3)) := fa_fptr (s := 0) (ft := 3) (by kernel_rfl) (by kernel_rfl) cs
@[go_sem] theorem T36f3v (cs) : fieldA Tryd.prog 36 3 (.agg cs) = takeT Tryd.prog 3 (cs.drop 3) := fi_agg (by kernel_rfl) cs
@[go_sem] theorem T36f4p (k g off) : fieldAddrA Tryd.prog 36 4 (.ptr k g off) = some (.ptr k g (off + 4)) := fa_ptr (s := 0) (ft := 35) (by kernel_rfl) (by kernel_rfl) k g off
@[go_sem] theorem T36f4q (cs) : fieldAddrA Tryd.prog 36 4 (.fptr cs) = some (.fptr (cs.drop 4)) := fa_fptr (s := 0) (ft := 35) (by kernel_rfl) (by kernel_rfl) cs
@[go_sem] theorem T36f4v (cs) : fieldA Tryd.prog 36 4 (.agg cs) = takeT Tryd.prog 35 (cs.drop 4) := fi_agg (by kernel_rfl) cs
@[go_sem] theorem T36bd (xs) : aBuild Tryd.prog 36 xs = (fillA (fun i => ([(0, 1), (1, 1), (2, 1), (3, 1), (4, 1)] : List (Nat × Nat))[i]?) [AV.int .i64 0, AV.int .i64 0, AV.int .i64 0, AV.int .i64 0, AV.nil] xs).map .agg := by kernel_rfl
@[go_sem] theorem T37s : tSize Tryd.prog 37 = some 5 := by kernel_rfl
@[go_sem] theorem T37a : tAgg Tryd.prog 37 = some true := by kernel_rfl
@[go_sem] theorem T37z : tZero Tryd.prog 37 = some [AV.int .i64 0, AV.int .i64 0, AV.int .i64 0, AV.int .i64 0, AV.nil] := by kernel_rfl
@[go_sem] theorem T37f0p (k g off) : fieldAddrA Tryd.prog 37 0 (.ptr k g off) = some (.ptr k g (off + 0)) := fa_ptr (s := 0) (ft := 3) (by kernel_rfl) (by kernel_rfl) k g off
@[go_sem] theorem T37f0q (cs) : fieldAddrA Tryd.prog 37 0 (.fptr cs) = some (.fptr (cs.drop 0)) := fa_fptr (s := 0) (ft := 3) (by kernel_rfl) (by kernel_rfl) cs
@[go_sem] theorem T37f0v (cs) : fieldA Tryd.prog 37 0 (.agg cs) = takeT Tryd.prog 3 (cs.drop 0) := fi_agg (by kernel_rfl) cs
@[go_sem] theorem T37f1p (k g off) : fieldAddrA Tryd.prog 37 1 (.ptr k g off) = some (.ptr k g (off + 1)) := fa_ptr (s := 0) (ft := 3) (by kernel_rfl) (by kernel_rfl) k g off
@[go_sem] theorem T37f1q (cs) : fieldAddrA Tryd.prog 37 1 (.fptr cs) = some (.fptr (cs.drop 1)) := fa_fptr (s := 0) (ft := 3) (by kernel_rfl) (by kernel_rfl) cs
@[go_sem] theorem T37f1v (cs) : fieldA Tryd.prog 37 1 (.agg cs) = takeT Tryd.prog 3 (cs.drop 1) := fi_agg (by kernel_rfl) cs
@[go_sem] theorem T37f2p (k g off) : fieldAddrA Tryd.prog 37 2 (.ptr k g off) = some (.ptr k g (off + 2)) := fa_ptr (s := 0) (ft := 3) (by kernel_rfl) (by kernel_rfl) k g off
@[go_sem] theorem T37f2q (cs) : fieldAddrA Tryd.prog 37 2 (.fptr cs) = some (.fptr (cs.drop 2)) := fa_fptr (s := 0) (ft := 3) (by kernel_rfl) (by kernel_rfl) cs
@[go_sem] theorem T37f2v (cs) : fieldA Tryd.prog 37 2 (.agg cs) = takeT Tryd.prog 3 (cs.drop 2) := fi_agg (by kernel_rfl) cs
@[go_sem] theorem T37f3p (k g off) : fieldAddrA Tryd.prog 37 3 (.ptr k g off) = some (.ptr k g (off + 3)) := fa_ptr (s := 0) (ft := 3) (by kernel_rfl) (by kernel_rfl) k g off
@[go_sem] theorem T37f3q (cs) : fieldAddrA Tryd.prog 37 3 (.fptr cs) = some (.fptr (cs.drop 3)) := fa_fptr (s := 0) (ft := 3) (by kernel_rfl) (by kernel_rfl) cs
@[go_sem] theorem T37f3v (cs) : fieldA Tryd.prog 37 3 (.agg cs) = takeT Tryd.prog 3 (cs.drop 3) := fi_agg (by kernel_rfl) cs
@[go_sem] theorem T37f4p (k g off) : fieldAddrA Tryd.prog 37 4 (.ptr k g off) = some (.ptr k g (off + 4)) := fa_ptr (s := 0) (ft := 35) (by kernel_rfl) (by kernel_rfl) k g off
@[go_sem] theorem T37f4q (cs) : fieldAddrA Tryd.prog 37 4 (.fptr cs) = some (.fptr (cs.drop 4)) := fa_fptr (s := 0) (ft := 35) (by kernel_rfl) (by kernel_rfl) cs
@[go_sem] theorem T37f4v (cs) : fieldA Tryd.prog 37 4 (.agg cs) = takeT Tryd.prog 35 (cs.drop 4) := fi_agg (by kernel_rfl) cs
@[go_sem] theorem T37bd (xs) : aBuild Tryd.prog 37 xs = (fillA (fun i => ([(0, 1), (1, 1), (2, 1), (3, 1), (4, 1)] : List (Nat × Nat))[i]?) [AV.int .i64 0, AV.int .i64 0, AV.int .i64 0, AV.int .i64 0, AV.nil] xs).map .agg := by kernel_rfl
@[go_sem] theorem T39s : tSize Tryd.prog 39 = some 1 := by kernel_rfl
@[go_sem] theorem T39a : tAgg Tryd.prog 39 = some false := by kernel_rfl
@[go_sem] theorem T39z : tZero Tryd.prog 39 = some [AV.int .i64 0] := by kernel_rfl
@[go_sem] theorem T39u : Tryd.prog.underlying 39 = some (.int .i64) := by kernel_rfl
@[go_sem] theorem T48s : tSize Tryd.prog 48 = some 1 := by kernel_rfl
@[go_sem] theorem T48a : tAgg Tryd.prog 48 = some false := by kernel_rfl
@[go_sem] theorem T48z : tZero Tryd.prog 48 = some [AV.nil] := by kernel_rfl
@[go_sem] theorem T48ln0 (o) : aLen Tryd.prog o 48 .nil = some (.int .i64 0) := ln_nil (e := 9) (by kernel_rfl) o
@[go_sem] theorem T48ln1 (o n cs) : aLen Tryd.prog o 48 (.sl n cs) = some (.int .i64 n) := ln_sl (e := 9) (by kernel_rfl) o n cs
@[go_sem] theorem T48ln2 (o k g off n) : aLen Tryd.prog o 48 (.ref k g off n) = some (.int .i64 n) := ln_ref (e := 9) (by kernel_rfl) o k g off n
@[go_sem] theorem T48ix1 (n cs i) : aIndexAddr Tryd.prog 48 (.sl n cs) i = if 0 ≤ i ∧ i < (n : Int) then some (.fptr (cs.drop (i.toNat * 1))) else none := ixs_sl (s := 1) (by kernel_rfl) n cs i
@[go_sem] theorem T48ix2 (k g off n i) : aIndexAddr Tryd.prog 48 (.ref k g off n) i = if 0 ≤ i ∧ i < (n : Int) then some (.ptr k g (off + i.toNat * 1)) else none := ixs_ref (s := 1) (by kernel_rfl) k g off n i
@[go_sem] theorem T48sl1 (n cs lo hi) : aSlice Tryd.prog 48 (.sl n cs) lo hi = if 0 ≤ lo.getD 0 ∧ lo.getD 0 ≤ hi.getD n ∧ hi.getD n ≤ n then some (.sl ((hi.getD n).toNat - (lo.getD 0).toNat) ((cs.take ((hi.getD n).toNat * 1)).drop ((lo.getD 0).toNat * 1))) else none := sl_sl (s := 1) (by kernel_rfl) n cs lo hi
@[go_sem] theorem T48sl2 (k g off n lo hi) : aSlice Tryd.prog 48 (.ref k g off n) lo hi = if 0 ≤ lo.getD 0 ∧ lo.getD 0 ≤ hi.getD n ∧ hi.getD n ≤ n then some (.ref k g (off + (lo.getD 0).toNat * 1) ((hi.getD n).toNat - (lo.getD 0).toNat)) else none := sl_ref (s := 0) (by kernel_rfl) k g off n lo hi
@[go_sem] theorem T48cp (k g off n x o nx) : aCopy Tryd.prog 48 (.ref k g off n) x ⟨o, nx⟩ = (srcOf o x).bind fun q => (rowIf (o k) g).bind (copyR k off n 1 q.1 q.2 o nx) := cp_ref (by kernel_rfl) k g off n x o nx
@[go_sem] theorem T48ms (tg l c o nx) : aMakeSlice Tryd.prog tg 48 l c ⟨o, nx⟩ = if 0 ≤ l ∧ l ≤ c ∧ c * 16 ≤ maxB ∧ c ≤ maxB then some (.ref tg tg 0 l.toNat, ⟨upd o tg (.row ⟨9, 1, tg, false, true, rep [AV.str []] l.toNat⟩), nx⟩) else none := ms_eq (e := 9) (s := 0) (b := 16) (z := [AV.str []]) (by kernel_rfl) (by kernel_rfl) (by kernel_rfl) (by kernel_rfl) rfl tg l c o nx
@[go_sem] theorem T48bs (tg n ps o nx) : aBuildSlice Tryd.prog tg 48 n ps ⟨o, nx⟩ = if n * 1 ≤ 16777216 then (fillA (fun i => some (i * 1, 1)) (rep [AV.str []] n) ps).map (fun cs => (.ref tg tg 0 n, ⟨upd o tg (.row ⟨9, 1, tg, false, true, cs⟩), nx⟩)) else none := bs_eq (e := 9) (s := 0) (z := [AV.str []]) (by kernel_rfl) (by kernel_rfl) (by kernel_rfl) rfl tg n ps o nx
@[go_sem] theorem T48ap (tg x y o nx) : aAppend Tryd.prog tg 48 48 x y ⟨o, nx⟩ = (srcOf o y).bind fun q => appW tg 9 1 16 x q.1 q.2 o nx := ap_eq (e := 9) (s := 0) (b := 15) (z := [AV.str []]) (by kernel_rfl) (by kernel_rfl) (by kernel_rfl) (by kernel_rfl) rfl (by kernel_rfl) tg x y o nx
@[go_sem] theorem T54s : tSize Tryd.prog 54 = some 5 := by kernel_rfl
@[go_sem] theorem T54a : tAgg Tryd.prog 54 = some true := by kernel_rfl
@[go_sem] theorem T54z : tZero Tryd.prog 54 = some [AV.int .i64 0, AV.int .i64 0, AV.int .i64 0, AV.int .i64 0, AV.int .i64 0] := by kernel_rfl
@[go_sem] theorem T54ln (o x) : aLen Tryd.prog o 54 x = some (.int .i64 5) := ln_arr (e := 3) (by kernel_rfl) o x
@[go_sem] theorem T54ix1 (cs i) : aIndexAddr Tryd.prog 54 (.fptr cs) i = if 0 ≤ i ∧ i < 5 then some (.fptr (cs.drop (i.toNat * 1))) else none := ixa_fptr (n := 5) (e := 3) (s := 1) (by kernel_rfl) (by kernel_rfl) cs i
@[go_sem] theorem T54ix2 (k g off i) : aIndexAddr Tryd.prog 54 (.ptr k g off) i = if 0 ≤ i ∧ i < 5 then some (.ptr k g (off + i.toNat * 1)) else none := ixa_ptr (n := 5) (e := 3) (s := 1) (by kernel_rfl) (by kernel_rfl) k g off i
@[go_sem] theorem T54iv (cs i) : aIndex Tryd.prog 54 (.agg cs) i = if 0 ≤ i ∧ i < 5 then takeT Tryd.prog 3 (cs.drop (i.toNat * 1)) else none := ixv_agg (n := 5) (e := 3) (s := 1) (by kernel_rfl) (by kernel_rfl) cs i
@[go_sem] theorem T54bd (xs) : aBuild Tryd.prog 54 xs = (fillA (fun i => some (i * 1, 1)) [AV.int .i64 0, AV.int .i64 0, AV.int .i64 0, AV.int .i64 0, AV.int .i64 0] xs).map .agg := bd_array (n := 5) (e := 3) (by kernel_rfl) (by kernel_rfl) (by kernel_rfl) xs
@[go_sem] theorem T54lf : eqLeaves Tryd.prog 54 = some [Leaf.int, Leaf.int, Leaf.int, Leaf.int, Leaf.int] := by kernel_rfl
@[go_sem] theorem T63s : tSize Tryd.prog 63 = some 1 := by kernel_rfl
@[go_sem] theorem T63a : tAgg Tryd.prog 63 = some false := by kernel_rfl
@[go_sem] theorem T63z : tZero Tryd.prog 63 = some [AV.int .u64 0] := by kernel_rfl
@[go_sem] theorem T63u : Tryd.prog.underlying 63 = some (.int .u64) := by kernel_rfl
@[go_sem] theorem T64s : tSize Tryd.prog 64 = some 1 := by kernel_rfl
@[go_sem] theorem T64a : tAgg Tryd.prog 64 = some false := by kernel_rfl
@[go_sem] theorem T64z : tZero Tryd.prog 64 = some [AV.nilp] := by kernel_rfl
@[go_sem] theorem T65s : tSize Tryd.prog 65 = some 3 := by kernel_rfl
@[go_sem] theorem T65a : tAgg Tryd.prog 65 = some true := by kernel_rfl
@[go_sem] theorem T65z : tZero Tryd.prog 65 = some [AV.nil, AV.nil, AV.nil] := by kernel_rfl
@[go_sem] theorem T65f0p (k g off) : fieldAddrA Tryd.prog 65 0 (.ptr k g off) = some (.ptr k g (off + 0)) := fa_ptr (s := 1) (ft := 27) (by kernel_rfl) (by kernel_rfl) k g off
@[go_sem] theorem T65f0q (cs) : fieldAddrA Tryd.prog 65 0 (.fptr cs) = some (.fptr (cs.drop 0)) := fa_fptr (s := 1) (ft := 27) (by kernel_rfl) (by kernel_rfl) cs
@[go_sem] theorem T65f0v (cs) : fieldA Tryd.prog 65 0 (.agg cs) = takeT Tryd.prog 27 (cs.drop 0) := fi_agg (by kernel_rfl) cs
@[go_sem] theorem T65f1p (k g off) : fieldAddrA Tryd.prog 65 1 (.ptr k g off) = some (.ptr k g (off + 2)) := fa_ptr (s := 0) (ft := 22) (by kernel_rfl) (by kernel_rfl) k g off
@[go_sem] theorem T65f1q (cs) : fieldAddrA Tryd.prog 65 1 (.fptr cs) = some (.fptr (cs.drop 2)) := fa_fptr (s := 0) (ft := 22) (by kernel_rfl) (by kernel_rfl) cs
@[go_sem] theorem T65f1v (cs) : fieldA Tryd.prog 65 1 (.agg cs) = takeT Tryd.prog 22 (cs.drop 2) := fi_agg (by kernel_rfl) cs
@[go_sem] theorem T65bd (xs) : aBuild Tryd.prog 65 xs = (fillA (fun i => ([(0, 2), (2, 1)] : List (Nat × Nat))[i]?) [AV.nil, AV.nil, AV.nil] xs).map .agg := by kernel_rfl
@[go_sem] theorem T66s : tSize Tryd.prog 66 = some 3 := by kernel_rfl
@[go_sem] theorem T66a : tAgg Tryd.prog 66 = some true := by kernel_rfl
@[go_sem] theorem T66z : tZero Tryd.prog 66 = some [AV.nil, AV.nil, AV.nil] := by kernel_rfl
@[go_sem] theorem T66f0p (k g off) : fieldAddrA Tryd.prog 66 0 (.ptr k g off) = some (.ptr k g (off + 0)) := fa_ptr (s := 1) (ft := 27) (by kernel_rfl) (by kernel_rfl) k g off
@[go_sem] theorem T66f0q (cs) : fieldAddrA Tryd.prog 66 0 (.fptr cs) = some (.fptr (cs.drop 0)) := fa_fptr (s := 1) (ft := 27) (by kernel_rfl) (by kernel_rfl) cs
@[go_sem] theorem T66f0v (cs) : fieldA Tryd.prog 66 0 (.agg cs) = takeT Tryd.prog 27 (cs.drop 0) := fi_agg (by kernel_rfl) cs
@[go_sem] theorem T66f1p (k g off) : fieldAddrA Tryd.prog 66 1 (.ptr k g off) = some (.ptr k g (off + 2)) := fa_ptr (s := 0) (ft := 22) (by kernel_rfl) (by kernel_rfl) k g off
@[go_sem] theorem T66f1q (cs) : fieldAddrA Tryd.prog 66 1 (.fptr cs) = some (.fptr (cs.drop 2)) := fa_fptr (s := 0) (ft := 22) (by kernel_rfl) (by kernel_rfl) cs
@[go_sem] theorem T66f1v (cs) : fieldA Tryd.prog 66 1 (.agg cs) = takeT Tryd.prog 22 (cs.drop 2) := fi_agg (by kernel_rfl) cs
@[go_sem] theorem T66bd (xs) : aBuild Tryd.prog 66 xs = (fillA (fun i => ([(0, 2), (2, 1)] : List (Nat × Nat))[i]?) [AV.nil, AV.nil, AV.nil] xs).map .agg := by kernel_rfl
@[go_sem] theorem T68s : tSize Tryd.prog 68 = some 1 := by kernel_rfl
@[go_sem] theorem T68a : tAgg Tryd.prog 68 = some false := by kernel_rfl
@[go_sem] theorem T68z : tZero Tryd.prog 68 = some [AV.nilmp] := by kernel_rfl
@[go_sem] theorem T68lk (m s ok o nx) : aLookup Tryd.prog 68 (.mp m) (.int .i64 s) ok ⟨o, nx⟩ = (mapIf (o m)).bind fun es => (findA (.int .i64 s) es).map (lkV ok (AV.int .i64 0)) := lk_eq (kt := 3) (et := 3) (z := (AV.int .i64 0)) (k := .int .i64 s) (by kernel_rfl) (by kernel_rfl) (by kernel_rfl) m ok o nx
@[go_sem] theorem T68mu (m s v o nx) : aMapUpdate Tryd.prog 68 (.mp m) (.int .i64 s) v ⟨o, nx⟩ = (mapIf (o m)).bind (updM m (.int .i64 s) v o nx) := mu_eq (kt := 3) (et := 3) (k := .int .i64 s) (by kernel_rfl) (by kernel_rfl) m v o nx
@[go_sem] theorem T68lm (o k) : aLen Tryd.prog o 68 (.mp k) = (mapIf (o k)).map fun es => .int .i64 es.length := lm_eq (kt := 3) (et := 3) (by kernel_rfl) o k
@[go_sem] theorem T74s : tSize Tryd.prog 74 = some 3 := by kernel_rfl
@[go_sem] theorem T74a : tAgg Tryd.prog 74 = some true := by kernel_rfl
@[go_sem] theorem T74z : tZero Tryd.prog 74 = some [AV.int .i64 0, AV.int .i64 0, AV.nil] := by kernel_rfl
@[go_sem] theorem T74f0p (k g off) : fieldAddrA Tryd.prog 74 0 (.ptr k g off) = some (.ptr k g (off + 0)) := fa_ptr (s := 0) (ft := 3) (by kernel_rfl) (by kernel_rfl) k g off
@[go_sem] theorem T74f0q (cs) : fieldAddrA Tryd.prog 74 0 (.fptr cs) = some (.fptr (cs.drop 0)) := fa_fptr (s := 0) (ft := 3) (by kernel_rfl) (by kernel_rfl) cs
@[go_sem] theorem T74f0v (cs) : fieldA Tryd.prog 74 0 (.agg cs) = takeT Tryd.prog 3 (cs.drop 0) := fi_agg (by kernel_rfl) cs
@[go_sem] theorem T74f1p (k g off) : fieldAddrA Tryd.prog 74 1 (.ptr k g off) = some (.ptr k g (off + 1)) := fa_ptr (s := 0) (ft := 3) (by kernel_rfl) (by kernel_rfl) k g off
@[go_sem] theorem T74f1q (cs) : fieldAddrA Tryd.prog 74 1 (.fptr cs) = some (.fptr (cs.drop 1)) := fa_fptr (s := 0) (ft := 3) (by kernel_rfl) (by kernel_rfl) cs
@[go_sem] theorem T74f1v (cs) : fieldA Tryd.prog 74 1 (.agg cs) = takeT Tryd.prog 3 (cs.drop 1) := fi_agg (by kernel_rfl) cs
@[go_sem] theorem T74f2p (k g off) : fieldAddrA Tryd.prog 74 2 (.ptr k g off) = some (.ptr k g (off + 2)) := fa_ptr (s := 0) (ft := 33) (by kernel_rfl) (by kernel_rfl) k g off
@[go_sem] theorem T74f2q (cs) : fieldAddrA Tryd.prog 74 2 (.fptr cs) = some (.fptr (cs.drop 2)) := fa_fptr (s := 0) (ft := 33) (by kernel_rfl) (by kernel_rfl) cs
@[go_sem] theorem T74f2v (cs) : fieldA Tryd.prog 74 2 (.agg cs) = takeT Tryd.prog 33 (cs.drop 2) := fi_agg (by kernel_rfl) cs
@[go_sem] theorem T74bd (xs) : aBuild Tryd.prog 74 xs = (fillA (fun i => ([(0, 1), (1, 1), (2, 1)] : List (Nat × Nat))[i]?) [AV.int .i64 0, AV.int .i64 0, AV.nil] xs).map .agg := by kernel_rfl
@[go_sem] theorem T75s : tSize Tryd.prog 75 = some 3 := by kernel_rfl
@[go_sem] theorem T75a : tAgg Tryd.prog 75 = some true := by kernel_rfl
@[go_sem] theorem T75z : tZero Tryd.prog 75 = some [AV.int .i64 0, AV.int .i64 0, AV.nil] := by kernel_rfl
@[go_sem] theorem T75f0p (k g off) : fieldAddrA Tryd.prog 75 0 (.ptr k g off) = some (.ptr k g (off + 0)) := fa_ptr (s := 0) (ft := 3) (by kernel_rfl) (by kernel_rfl) k g off
@[go_sem] theorem T75f0q (cs) : fieldAddrA Tryd.prog 75 0 (.fptr cs) = some (.fptr (cs.drop 0)) := fa_fptr (s := 0) (ft := 3) (by kernel_rfl) (by kernel_rfl) cs
@[go_sem] theorem T75f0v (cs) : fieldA Tryd.prog 75 0 (.agg cs) = takeT Tryd.prog 3 (cs.drop 0) := fi_agg (by kernel_rfl) cs
@[go_sem] theorem T75f1p (k g off) : fieldAddrA Tryd.prog 75 1 (.ptr k g off) = some (.ptr k g (off + 1)) := fa_ptr (s := 0) (ft := 3) (by kernel_rfl) (by kernel_rfl) k g off
@[go_sem] theorem T75f1q (cs) : fieldAddrA Tryd.prog 75 1 (.fptr cs) = some (.fptr (cs.drop 1)) := fa_fptr (s := 0) (ft := 3) (by kernel_rfl) (by kernel_rfl) cs
@[go_sem] theorem T75f1v (cs) : fieldA Tryd.prog 75 1 (.agg cs) = takeT Tryd.prog 3 (cs.drop 1) := fi_agg (by kernel_rfl) cs
@[go_sem] theorem T75f2p (k g off) : fieldAddrA Tryd.prog 75 2 (.ptr k g off) = some (.ptr k g (off + 2)) := fa_ptr (s := 0) (ft := 33) (by kernel_rfl) (by kernel_rfl) k g off
@[go_sem] theorem T75f2q (cs) : fieldAddrA Tryd.prog 75 2 (.fptr cs) = some (.fptr (cs.drop 2)) := fa_fptr (s := 0) (ft := 33) (by kernel_rfl) (by kernel_rfl) cs
@[go_sem] theorem T75f2v (cs) : fieldA Tryd.prog 75 2 (.agg cs) = takeT Tryd.prog 33 (cs.drop 2) := fi_agg (by kernel_rfl) cs
@[go_sem] theorem T75bd (xs) : aBuild Tryd.prog 75 xs = (fillA (fun i => ([(0, 1), (1, 1), (2, 1)] : List (Nat × Nat))[i]?) [AV.int .i64 0, AV.int .i64 0, AV.nil] xs).map .agg := by kernel_rfl
@[go_sem] theorem T79s : tSize Tryd.prog 79 = some 1 := by kernel_rfl
@[go_sem] theorem T79a : tAgg Tryd.prog 79 = some false := by kernel_rfl
@[go_sem] theorem T79z : tZero Tryd.prog 79 = some [AV.nil] := by kernel_rfl
@[go_sem] theorem T79ln0 (o) : aLen Tryd.prog o 79 .nil = some (.int .i64 0) := ln_nil (e := 145) (by kernel_rfl) o
@[go_sem] theorem T79ln1 (o n cs) : aLen Tryd.prog o 79 (.sl n cs) = some (.int .i64 n) := ln_sl (e := 145) (by kernel_rfl) o n cs
@[go_sem] theorem T79ln2 (o k g off n) : aLen Tryd.prog o 79 (.ref k g off n) = some (.int .i64 n) := ln_ref (e := 145) (by kernel_rfl) o k g off n
@[go_sem] theorem T79ix1 (n cs i) : aIndexAddr Tryd.prog 79 (.sl n cs) i = if 0 ≤ i ∧ i < (n : Int) then some (.fptr (cs.drop (i.toNat * 3))) else none := ixs_sl (s := 3) (by kernel_rfl) n cs i
@[go_sem] theorem T79ix2 (k g off n i) : aIndexAddr Tryd.prog 79 (.ref k g off n) i = if 0 ≤ i ∧ i < (n : Int) then some (.ptr k g (off + i.toNat * 3)) else none := ixs_ref (s := 3) (by kernel_rfl) k g off n i
@[go_sem] theorem T79sl1 (n cs lo hi) : aSlice Tryd.prog 79 (.sl n cs) lo hi = if 0 ≤ lo.getD 0 ∧ lo.getD 0 ≤ hi.getD n ∧ hi.getD n ≤ n then some (.sl ((hi.getD n).toNat - (lo.getD 0).toNat) ((cs.take ((hi.getD n).toNat * 3)).drop ((lo.getD 0).toNat * 3))) else none := sl_sl (s := 3) (by kernel_rfl) n cs lo hi
@[go_sem] theorem T79sl2 (k g off n lo hi) : aSlice Tryd.prog 79 (.ref k g off n) lo hi = if 0 ≤ lo.getD 0 ∧ lo.getD 0 ≤ hi.getD n ∧ hi.getD n ≤ n then some (.ref k g (off + (lo.getD 0).toNat * 3) ((hi.getD n).toNat - (lo.getD 0).toNat)) else none := sl_ref (s := 2) (by kernel_rfl) k g off n lo hi
@[go_sem] theorem T79cp (k g off n x o nx) : aCopy Tryd.prog 79 (.ref k g off n) x ⟨o, nx⟩ = (srcOf o x).bind fun q => (rowIf (o k) g).bind (copyR k off n 3 q.1 q.2 o nx) := cp_ref (by kernel_rfl) k g off n x o nx
@[go_sem] theorem T79ms (tg l c o nx) : aMakeSlice Tryd.prog tg 79 l c ⟨o, nx⟩ = if 0 ≤ l ∧ l ≤ c ∧ c * 24 ≤ maxB ∧ c ≤ maxB then some (.ref tg tg 0 l.toNat, ⟨upd o tg (.row ⟨145, 3, tg, false, true, rep [AV.int .i64 0, AV.int .i64 0, AV.int .i64 0] l.toNat⟩), nx⟩) else none := ms_eq (e := 145) (s := 2) (b := 24) (z := [AV.int .i64 0, AV.int .i64 0, AV.int .i64 0]) (by kernel_rfl) (by kernel_rfl) (by kernel_rfl) (by kernel_rfl) rfl tg l c o nx
@[go_sem] theorem T79bs (tg n ps o nx) : aBuildSlice Tryd.prog tg 79 n ps ⟨o, nx⟩ = if n * 3 ≤ 16777216 then (fillA (fun i => some (i * 3, 3)) (rep [AV.int .i64 0, AV.int .i64 0, AV.int .i64 0] n) ps).map (fun cs => (.ref tg tg 0 n, ⟨upd o tg (.row ⟨145, 3, tg, false, true, cs⟩), nx⟩)) else none := bs_eq (e := 145) (s := 2) (z := [AV.int .i64 0, AV.int .i64 0, AV.int .i64 0]) (by kernel_rfl) (by kernel_rfl) (by kernel_rfl) rfl tg n ps o nx
@[go_sem] theorem T79ap (tg x y o nx) : aAppend Tryd.prog tg 79 79 x y ⟨o, nx⟩ = (srcOf o y).bind fun q => appW tg 145 3 24 x q.1 q.2 o nx := ap_eq (e := 145) (s := 2) (b := 23) (z := [AV.int .i64 0, AV.int .i64 0, AV.int .i64 0]) (by kernel_rfl) (by kernel_rfl) (by kernel_rfl) (by kernel_rfl) rfl (by kernel_rfl) tg x y o nx
@[go_sem] theorem T80s : tSize Tryd.prog 80 = some 1 := by kernel_rfl
@[go_sem] theorem T80a : tAgg Tryd.prog 80 = some false := by kernel_rfl
@[go_sem] theorem T80z : tZero Tryd.prog 80 = some [AV.nil] := by kernel_rfl
@[go_sem] theorem T80ln0 (o) : aLen Tryd.prog o 80 .nil = some (.int .i64 0) := ln_nil (e := 100) (by kernel_rfl) o
@[go_sem] theorem T80ln1 (o n cs) : aLen Tryd.prog o 80 (.sl n cs) = some (.int .i64 n) := ln_sl (e := 100) (by kernel_rfl) o n cs
@[go_sem] theorem T80ln2 (o k g off n) : aLen Tryd.prog o 80 (.ref k g off n) = some (.int .i64 n) := ln_ref (e := 100) (by kernel_rfl) o k g off n
@[go_sem] theorem T80ix1 (n cs i) : aIndexAddr Tryd.prog 80 (.sl n cs) i = if 0 ≤ i ∧ i < (n : Int) then some (.fptr (cs.drop (i.toNat * 2))) else none := ixs_sl (s := 2) (by kernel_rfl) n cs i
@[go_sem] theorem T80ix2 (k g off n i) : aIndexAddr Tryd.prog 80 (.ref k g off n) i = if 0 ≤ i ∧ i < (n : Int) then some (.ptr k g (off + i.toNat * 2)) else none := ixs_ref (s := 2) (by kernel_rfl) k g off n i
@[go_sem] theorem T80sl1 (n cs lo hi) : aSlice Tryd.prog 80 (.sl n cs) lo hi = if 0 ≤ lo.getD 0 ∧ lo.getD 0 ≤ hi.getD n ∧ hi.getD n ≤ n then some (.sl ((hi.getD n).toNat - (lo.getD 0).toNat) ((cs.take ((hi.getD n).toNat * 2)).drop ((lo.getD 0).toNat * 2))) else none := sl_sl (s := 2) (by kernel_rfl) n cs lo hi
@[go_sem] theorem T80sl2 (k g off n lo hi) : aSlice Tryd.prog 80 (.ref k g off n) lo hi = if 0 ≤ lo.getD 0 ∧ lo.getD 0 ≤ hi.getD n ∧ hi.getD n ≤ n then some (.ref k g (off + (lo.getD 0).toNat * 2) ((hi.getD n).toNat - (lo.getD 0).toNat)) else none := sl_ref (s := 1) (by kernel_rfl) k g off n lo hi
@[go_sem] theorem T80cp (k g off n x o nx) : aCopy Tryd.prog 80 (.ref k g off n) x ⟨o, nx⟩ = (srcOf o x).bind fun q => (rowIf (o k) g).bind (copyR k off n 2 q.1 q.2 o nx) := cp_ref (by kernel_rfl) k g off n x o nx
@[go_sem] theorem T80ms (tg l c o nx) : aMakeSlice Tryd.prog tg 80 l c ⟨o, nx⟩ = if 0 ≤ l ∧ l ≤ c ∧ c * 16 ≤ maxB ∧ c ≤ maxB then some (.ref tg tg 0 l.toNat, ⟨upd o tg (.row ⟨100, 2, tg, false, true, rep [AV.int .i64 0, AV.int .i64 0] l.toNat⟩), nx⟩) else none := ms_eq (e := 100) (s := 1) (b := 16) (z := [AV.int .i64 0, AV.int .i64 0]) (by kernel_rfl) (by kernel_rfl) (by kernel_rfl) (by kernel_rfl) rfl tg l c o nx
@[go_sem] theorem T80bs (tg n ps o nx) : aBuildSlice Tryd.prog tg 80 n ps ⟨o, nx⟩ = if n * 2 ≤ 16777216 then (fillA (fun i => some (i * 2, 2)) (rep [AV.int .i64 0, AV.int .i64 0] n) ps).map (fun cs => (.ref tg tg 0 n, ⟨upd o tg (.row ⟨100, 2, tg, false, true, cs⟩), nx⟩)) else none := bs_eq (e := 100) (s := 1) (z := [AV.int .i64 0, AV.int .i64 0]) (by kernel_rfl) (by kernel_rfl) (by kernel_rfl) rfl tg n ps o nx
@[go_sem] theorem T80ap (tg x y o nx) : aAppend Tryd.prog tg 80 80 x y ⟨o, nx⟩ = (srcOf o y).bind fun q => appW tg 100 2 16 x q.1 q.2 o nx := ap_eq (e := 100) (s := 1) (b := 15) (z := [AV.int .i64 0, AV.int .i64 0]) (by kernel_rfl) (by kernel_rfl) (by kernel_rfl) (by kernel_rfl) rfl (by kernel_rfl) tg x y o nx
@[go_sem] theorem T81s : tSize Tryd.prog 81 = some 5 := by kernel_rfl
@[go_sem] theorem T81a : tAgg Tryd.prog 81 = some true := by kernel_rfl
@[go_sem] theorem T81z : tZero Tryd.prog 81 = some [AV.int .i64 0, AV.int .i64 0, AV.int .i64 0, AV.nil, AV.nil] := by kernel_rfl
@[go_sem] theorem T81f0p (k g off) : fieldAddrA Tryd.prog 81 0 (.ptr k g off) = some (.ptr k g (off + 0)) := fa_ptr (s := 0) (ft := 3) (by kernel_rfl) (by kernel_rfl) k g off
@[go_sem] theorem T81f0q (cs) : fieldAddrA Tryd.prog 81 0 (.fptr cs) = some (.fptr (cs.drop 0)) := fa_fptr (s := 0) (ft := 3) (by kernel_rfl) (by kernel_rfl) cs
@[go_sem] theorem T81f0v (cs) : fieldA Tryd.prog 81 0 (.agg cs) = takeT Tryd.prog 3 (cs.drop 0) := fi_agg (by kernel_rfl) cs
@[go_sem] theorem T81f1p (k g off) : fieldAddrA Tryd.prog 81 1 (.ptr k g off) = some (.ptr k g (off + 1)) := fa_ptr (s := 0) (ft := 3) (by kernel_rfl) (by kernel_rfl) k g off
@[go_sem] theorem T81f1q (cs) : fieldAddrA Tryd.prog 81 1 (.fptr cs) = some (.fptr (cs.drop 1)) := fa_fptr (s := 0) (ft := 3) (by kernel_rfl) (by kernel_rfl) cs
@[go_sem] theorem T81f1v (cs) : fieldA Tryd.prog 81 1 (.agg cs) = takeT Tryd.prog 3 (cs.drop 1) := fi_agg (by kernel_rfl) cs
@[go_sem] theorem T81f2p (k g off) : fieldAddrA Tryd.prog 81 2 (.ptr k g off) = some (.ptr k g (off + 2)) := fa_ptr (s := 0) (ft := 3) (by kernel_rfl) (by kernel_rfl) k g off
@[go_sem] theorem T81f2q (cs) : fieldAddrA Tryd.prog 81 2 (.fptr cs) = some (.fptr (cs.drop 2)) := fa_fptr (s := 0) (ft := 3) (by kernel_rfl) (by kernel_rfl) cs
@[go_sem] theorem T81f2v (cs) : fieldA Tryd.prog 81 2 (.agg cs) = takeT Tryd.prog 3 (cs.drop 2) := fi_agg (by kernel_rfl) cs
@[go_sem] theorem T81f3p (k g off) : fieldAddrA Tryd.prog 81 3 (.ptr k g off) = some (.ptr k g (off + 3)) := fa_ptr (s := 0) (ft := 79) (by kernel_rfl) (by kernel_rfl) k g off
@[go_sem] theorem T81f3q (cs) : fieldAddrA Tryd.prog 81 3 (.fptr cs) = some (.fptr (cs.drop 3)) := fa_fptr (s := 0) (ft := 79) (by kernel_rfl) (by kernel_rfl) cs
@[go_sem] theorem T81f3v (cs) : fieldA Tryd.prog 81 3 (.agg cs) = takeT Tryd.prog 79 (cs.drop 3) := fi_agg (by kernel_rfl) cs
@[go_sem] theorem T81f4p (k g off) : fieldAddrA Tryd.prog 81 4 (.ptr k g off) = some (.ptr k g (off + 4)) := fa_ptr (s := 0) (ft := 80) (by kernel_rfl) (by kernel_rfl) k g off
@[go_sem] theorem T81f4q (cs) : fieldAddrA Tryd.prog 81 4 (.fptr cs) = some (.fptr (cs.drop 4)) := fa_fptr (s := 0) (ft := 80) (by kernel_rfl) (by kernel_rfl) cs
@[go_sem] theorem T81f4v (cs) : fieldA Tryd.prog 81 4 (.agg cs) = takeT Tryd.prog 80 (cs.drop 4) := fi_agg (by kernel_rfl) cs
@[go_sem] theorem T81bd (xs) : aBuild Tryd.prog 81 xs = (fillA (fun i => ([(0, 1), (1, 1), (2, 1), (3, 1), (4, 1)] : List (Nat × Nat))[i]?) [AV.int .i64 0, AV.int .i64 0, AV.int .i64 0, AV.nil, AV.nil] xs).map .agg := by kernel_rfl
@[go_sem] theorem T82s : tSize Tryd.prog 82 = some 5 := by kernel_rfl
@[go_sem] theorem T82a : tAgg Tryd.prog 82 = some true := by kernel_rfl
@[go_sem] theorem T82z : tZero Tryd.prog 82 = some [AV.int .i64 0, AV.int .i64 0, AV.int .i64 0, AV.nil, AV.nil] := by kernel_rfl
@[go_sem] theorem T82f0p (k g off) : fieldAddrA Tryd.prog 82 0 (.ptr k g off) = some (.ptr k g (off + 0)) := fa_ptr (s := 0) (ft := 3) (by kernel_rfl) (by kernel_rfl) k g off
@[go_sem] theorem T82f0q (cs) : fieldAddrA Tryd.prog 82 0 (.fptr cs) = some (.fptr (cs.drop 0)) := fa_fptr (s := 0) (ft := 3) (by kernel_rfl) (by kernel_rfl) cs
@[go_sem] theorem T82f0v (cs) : fieldA Tryd.prog 82 0 (.agg cs) = takeT Tryd.prog 3 (cs.drop 0) := fi_agg (by kernel_rfl) cs
@[go_sem] theorem T82f1p (k g off) : fieldAddrA Tryd.prog 82 1 (.ptr k g off) = some (.ptr k g (off + 1)) := fa_ptr (s := 0) (ft := 3) (by kernel_rfl) (by kernel_rfl) k g off
@[go_sem] theorem T82f1q (cs) : fieldAddrA Tryd.prog 82 1 (.fptr cs) = some (.fptr (cs.drop 1)) := fa_fptr (s := 0) (ft := 3) (by kernel_rfl) (by kernel_rfl) cs
@[go_sem] theorem T82f1v (cs) : fieldA Tryd.prog 82 1 (.agg cs) = takeT Tryd.prog 3 (cs.drop 1) := fi_agg (by kernel_rfl) cs
@[go_sem] theorem T82f2p (k g off) : fieldAddrA Tryd.prog 82 2 (.ptr k g off) = some (.ptr k g (off + 2)) := fa_ptr (s := 0) (ft := 3) (by kernel_rfl) (by kernel_rfl) k g off
@[go_sem] theorem T82f2q (cs) : fieldAddrA Tryd.prog 82 2 (.fptr cs) = some (.fptr (cs.drop 2)) := fa_fptr (s := 0) (ft := 3) (by kernel_rfl) (by kernel_rfl) cs
@[go_sem] theorem T82f2v (cs) : fieldA Tryd.prog 82 2 (.agg cs) = takeT Tryd.prog 3 (cs.drop 2) := fi_agg (by kernel_rfl) cs
@[go_sem] theorem T82f3p (k g off) : fieldAddrA Tryd.prog 82 3 (.ptr k g off) = some (.ptr k g (off + 3)) := fa_ptr (s := 0) (ft := 79) (by kernel_rfl) (by kernel_rfl) k g off
@[go_sem] theorem T82f3q (cs) : fieldAddrA Tryd.prog 82 3 (.fptr cs) = some (.fptr (cs.drop 3)) := fa_fptr (s := 0) (ft := 79) (by kernel_rfl) (by kernel_rfl) cs
@[go_sem] theorem T82f3v (cs) : fieldA Tryd.prog 82 3 (.agg cs) = takeT Tryd.prog 79 (cs.drop 3) := fi_agg (by kernel_rfl) cs
@[go_sem] theorem T82f4p (k g off) : fieldAddrA Tryd.prog 82 4 (.ptr k g off) = some (.ptr k g (off + 4)) := fa_ptr (s := 0) (ft := 80) (by kernel_rfl) (by kernel_rfl) k g off
@[go_sem] theorem T82f4q (cs) : fieldAddrA Tryd.prog 82 4 (.fptr cs) = some (.fptr (cs.drop 4)) := fa_fptr (s := 0) (ft := 80) (by kernel_rfl) (by kernel_rfl) cs
@[go_sem] theorem T82f4v (cs) : fieldA Tryd.prog 82 4 (.agg cs) = takeT Tryd.prog 80 (cs.drop 4) := fi_agg (by kernel_rfl) cs
@[go_sem] theorem T82bd (xs) : aBuild Tryd.prog 82 xs = (fillA (fun i => ([(0, 1), (1, 1), (2, 1), (3, 1), (4, 1)] : List (Nat × Nat))[i]?) [AV.int .i64 0, AV.int .i64 0, AV.int .i64 0, AV.nil, AV.nil] xs).map .agg := by kernel_rfl
@[go_sem] theorem T88s : tSize Tryd.prog 88 = some 1 := by kernel_rfl
@[go_sem] theorem T88a : tAgg Tryd.prog 88 = some false := by kernel_rfl
@[go_sem] theorem T88z : tZero Tryd.prog 88 = some [AV.nil] := by kernel_rfl
@[go_sem] theorem T88ln0 (o) : aLen Tryd.prog o 88 .nil = some (.int .i64 0) := ln_nil (e := 5) (by kernel_rfl) o
@[go_sem] theorem T88ln1 (o n cs) : aLen Tryd.prog o 88 (.sl n cs) = some (.int .i64 n) := ln_sl (e := 5) (by kernel_rfl) o n cs
@[go_sem] theorem T88ln2 (o k g off n) : aLen Tryd.prog o 88 (.ref k g off n) = some (.int .i64 n) := ln_ref (e := 5) (by kernel_rfl) o k g off n
@[go_sem] theorem T88ix1 (n cs i) : aIndexAddr Tryd.prog 88 (.sl n cs) i = if 0 ≤ i ∧ i < (n : Int) then some (.fptr (cs.drop (i.toNat * 1))) else none := ixs_sl (s := 1) (by kernel_rfl) n cs i
@[go_sem] theorem T88ix2 (k g off n i) : aIndexAddr Tryd.prog 88 (.ref k g off n) i = if 0 ≤ i ∧ i < (n : Int) then some (.ptr k g (off + i.toNat * 1)) else none := ixs_ref (s := 1) (by kernel_rfl) k g off n i
@[go_sem] theorem T88sl1 (n cs lo hi) : aSlice Tryd.prog 88 (.sl n cs) lo hi = if 0 ≤ lo.getD 0 ∧ lo.getD 0 ≤ hi.getD n ∧ hi.getD n ≤ n then some (.sl ((hi.getD n).toNat - (lo.getD 0).toNat) ((cs.take ((hi.getD n).toNat * 1)).drop ((lo.getD 0).toNat * 1))) else none := sl_sl (s := 1) (by kernel_rfl) n cs lo hi
@[go_sem] theorem T88sl2 (k g off n lo hi) : aSlice Tryd.prog 88 (.ref k g off n) lo hi = if 0 ≤ lo.getD 0 ∧ lo.getD 0 ≤ hi.getD n ∧ hi.getD n ≤ n then some (.ref k g (off + (lo.getD 0).toNat * 1) ((hi.getD n).toNat - (lo.getD 0).toNat)) else none := sl_ref (s := 0) (by kernel_rfl) k g off n lo hi
@[go_sem] theorem T88cp (k g off n x o nx) : aCopy Tryd.prog 88 (.ref k g off n) x ⟨o, nx⟩ = (srcOf o x).bind fun q => (rowIf (o k) g).bind (copyR k off n 1 q.1 q.2 o nx) := cp_ref (by kernel_rfl) k g off n x o nx
@[go_sem] theorem T88ms (tg l c o nx) : aMakeSlice Tryd.prog tg 88 l c ⟨o, nx⟩ = if 0 ≤ l ∧ l ≤ c ∧ c * 1 ≤ maxB ∧ c ≤ maxB then some (.ref tg tg 0 l.toNat, ⟨upd o tg (.row ⟨5, 1, tg, false, true, rep [AV.int .u8 0] l.toNat⟩), nx⟩) else none := ms_eq (e := 5) (s := 0) (b := 1) (z := [AV.int .u8 0]) (by kernel_rfl) (by kernel_rfl) (by kernel_rfl) (by kernel_rfl) rfl tg l c o nx
@[go_sem] theorem T88bs (tg n ps o nx) : aBuildSlice Tryd.prog tg 88 n ps ⟨o, nx⟩ = if n * 1 ≤ 16777216 then (fillA (fun i => some (i * 1, 1)) (rep [AV.int .u8 0] n) ps).map (fun cs => (.ref tg tg 0 n, ⟨upd o tg (.row ⟨5, 1, tg, false, true, cs⟩), nx⟩)) else none := bs_eq (e := 5) (s := 0) (z := [AV.int .u8 0]) (by kernel_rfl) (by kernel_rfl) (by kernel_rfl) rfl tg n ps o nx
@[go_sem] theorem T88ap (tg x y o nx) : aAppend Tryd.prog tg 88 88 x y ⟨o, nx⟩ = (srcOf o y).bind fun q => appW tg 5 1 1 x q.1 q.2 o nx := ap_eq (e := 5) (s := 0) (b := 0) (z := [AV.int .u8 0]) (by kernel_rfl) (by kernel_rfl) (by kernel_rfl) (by kernel_rfl) rfl (by kernel_rfl) tg x y o nx
@[go_sem] theorem T89s : tSize Tryd.prog 89 = some 4 := by kernel_rfl
@[go_sem] theorem T89a : tAgg Tryd.prog 89 = some true := by kernel_rfl
@[go_sem] theorem T89z : tZero Tryd.prog 89 = some [AV.int .i64 0, AV.int .i64 0, AV.int .i64 0, AV.int .i64 0] := by kernel_rfl
@[go_sem] theorem T89f0p (k g off) : fieldAddrA Tryd.prog 89 0 (.ptr k g off) = some (.ptr k g (off + 0)) := fa_ptr (s := 0) (ft := 3) (by kernel_rfl) (by kernel_rfl) k g off
@[go_sem] theorem T89f0q (cs) : fieldAddrA Tryd.prog 89 0 (.fptr cs) = some (.fptr (cs.drop 0)) := fa_fptr (s := 0) (ft := 3) (by kernel_rfl) (by kernel_rfl) cs
@[go_sem] theorem T89f0v (cs) : fieldA Tryd.prog 89 0 (.agg cs) = takeT Tryd.prog 3 (cs.drop 0) := fi_agg (by kernel_rfl) cs
@[go_sem] theorem T89f1p (k g off) : fieldAddrA Tryd.prog 89 1 (.ptr k g off) = some (.ptr k g (off + 1)) := fa_ptr (s := 0) (ft := 3) (by kernel_rfl) (by kernel_rfl) k g off
@[go_sem] theorem T89f1q (cs) : fieldAddrA Tryd.prog 89 1 (.fptr cs) = some (.fptr (cs.drop 1)) := fa_fptr (s := 0) (ft := 3) (by kernel_rfl) (by kernel_rfl) cs
@[go_sem] theorem T89f1v (cs) : fieldA Tryd.prog 89 1 (.agg cs) = takeT Tryd.prog 3 (cs.drop 1) := fi_agg (by kernel_rfl) cs
@[go_sem] theorem T89f2p (k g off) : fieldAddrA Tryd.prog 89 2 (.ptr k g off) = some (.ptr k g (off + 2)) := fa_ptr (s := 0) (ft := 3) (by kernel_rfl) (by kernel_rfl) k g off
@[go_sem] theorem T89f2q (cs) : fieldAddrA Tryd.prog 89 2 (.fptr cs) = some (.fptr (cs.drop 2)) := fa_fptr (s := 0) (ft := 3) (by kernel_rfl) (by kernel_rfl) cs
@[go_sem] theorem T89f2v (cs) : fieldA Tryd.prog 89 2 (.agg cs) = takeT Tryd.prog 3 (cs.drop 2) := fi_agg (by kernel_rfl) cs
@[go_sem] theorem T89f3p (k g off) : fieldAddrA Tryd.prog 89 3 (.ptr k g off) = some (.ptr k g (off + 3)) := fa_ptr (s := 0) (ft := 3) (by kernel_rfl) (by kernel_rfl) k g off
@[go_sem] theorem T89f3q (cs) : fieldAddrA Tryd.prog 89 3 (.fptr cs) = some (.fptr (cs.drop 3)) := fa_fptr (s := 0) (ft := 3) (by kernel_rfl) (by kernel_rfl) cs
@[go_sem] theorem T89f3v (cs) : fieldA Tryd.prog 89 3 (.agg cs) = takeT Tryd.prog 3 (cs.drop 3) := fi_agg (by kernel_rfl) cs
@[go_sem] theorem T89bd (xs) : aBuild Tryd.prog 89 xs = (fillA (fun i => ([(0, 1), (1, 1), (2, 1), (3, 1)] : List (Nat × Nat))[i]?) [AV.int .i64 0, AV.int .i64 0, AV.int .i64 0, AV.int .i64 0] xs).map .agg := by kernel_rfl
@[go_sem] theorem T89lf : eqLeaves Tryd.prog 89 = some [Leaf.int, Leaf.int, Leaf.int, Leaf.int] := by kernel_rfl
@[go_sem] theorem T90s : tSize Tryd.prog 90 = some 4 := by kernel_rfl
@[go_sem] theorem T90a : tAgg Tryd.prog 90 = some true := by kernel_rfl
@[go_sem] theorem T90z : tZero Tryd.prog 90 = some [AV.int .i64 0, AV.int .i64 0, AV.int .i64 0, AV.int .i64 0] := by kernel_rfl
@[go_sem] theorem T90f0p (k g off) : fieldAddrA Tryd.prog 90 0 (.ptr k g off) = some (.ptr k g (off + 0)) := fa_ptr (s := 0) (ft := 3) (by kernel_rfl) (by kernel_rfl) k g off
@[go_sem] theorem T90f0q (cs) : fieldAddrA Tryd.prog 90 0 (.fptr cs) = some (.fptr (cs.drop 0)) := fa_fptr (s := 0) (ft := 3) (by kernel_rfl) (by kernel_rfl) cs
@[go_sem] theorem T90f0v (cs) : fieldA Tryd.prog 90 0 (.agg cs) = takeT Tryd.prog 3 (cs.drop 0) := fi_agg (by kernel_rfl) cs
@[go_sem] theorem T90f1p (k g off) : fieldAddrA Tryd.prog 90 1 (.ptr k g off) = some (.ptr k g (off + 1)) := fa_ptr (s := 0) (ft := 3) (by kernel_rfl) (by kernel_rfl) k g off
@[go_sem] theorem T90f1q (cs) : fieldAddrA Tryd.prog 90 1 (.fptr cs) = some (.fptr (cs.drop 1)) := fa_fptr (s := 0) (ft := 3) (by kernel_rfl) (by kernel_rfl) cs
@[go_sem] theorem T90f1v (cs) : fieldA Tryd.prog 90 1 (.agg cs) = takeT Tryd.prog 3 (cs.drop 1) := fi_agg (by kernel_rfl) cs
@[go_sem] theorem T90f2p (k g off) : fieldAddrA Tryd.prog 90 2 (.ptr k g off) = some (.ptr k g (off + 2)) := fa_ptr (s := 0) (ft := 3) (by kernel_rfl) (by kernel_rfl) k g off
@[go_sem] theorem T90f2q (cs) : fieldAddrA Tryd.prog 90 2 (.fptr cs) = some (.fptr (cs.drop 2)) := fa_fptr (s := 0) (ft := 3) (by kernel_rfl) (by kernel_rfl) cs
@[go_sem] theorem T90f2v (cs) : fieldA Tryd.prog 90 2 (.agg cs) = takeT Tryd.prog 3 (cs.drop 2) := fi_agg (by kernel_rfl) cs
@[go_sem] theorem T90f3p (k g off) : fieldAddrA Tryd.prog 90 3 (.ptr k g off) = some (.ptr k g (off + 3)) := fa_ptr (s := 0) (ft := 3) (by kernel_rfl) (by kernel_rfl) k g off
@[go_sem] theorem T90f3q (cs) : fieldAddrA Tryd.prog 90 3 (.fptr cs) = some (.fptr (cs.drop 3)) := fa_fptr (s := 0) (ft := 3) (by kernel_rfl) (by kernel_rfl) cs
@[go_sem] theorem T90f3v (cs) : fieldA Tryd.prog 90 3 (.agg cs) = takeT Tryd.prog 3 (cs.drop 3) := fi_agg (by kernel_rfl) cs
@[go_sem] theorem T90bd (xs) : aBuild Tryd.prog 90 xs = (fillA (fun i => ([(0, 1), (1, 1), (2, 1), (3, 1)] : List (Nat × Nat))[i]?) [AV.int .i64 0, AV.int .i64 0, AV.int .i64 0, AV.int .i64 0] xs).map .agg := by kernel_rfl
@[go_sem] theorem T90lf : eqLeaves Tryd.prog 90 = some [Leaf.int, Leaf.int, Leaf.int, Leaf.int] := by kernel_rfl
@[go_sem] theorem T91s : tSize Tryd.prog 91 = some 1 := by kernel_rfl
@[go_sem] theorem T91a : tAgg Tryd.prog 91 = some false := by kernel_rfl
@[go_sem] theorem T91z : tZero Tryd.prog 91 = some [AV.nil] := by kernel_rfl
@[go_sem] theorem T91ln0 (o) : aLen Tryd.prog o 91 .nil = some (.int .i64 0) := ln_nil (e := 90) (by kernel_rfl) o
@[go_sem] theorem T91ln1 (o n cs) : aLen Tryd.prog o 91 (.sl n cs) = some (.int .i64 n) := ln_sl (e := 90) (by kernel_rfl) o n cs
@[go_sem] theorem T91ln2 (o k g off n) : aLen Tryd.prog o 91 (.ref k g off n) = some (.int .i64 n) := ln_ref (e := 90) (by kernel_rfl) o k g off n
@[go_sem] theorem T91ix1 (n cs i) : aIndexAddr Tryd.prog 91 (.sl n cs) i = if 0 ≤ i ∧ i < (n : Int) then some (.fptr (cs.drop (i.toNat * 4))) else none := ixs_sl (s := 4) (by kernel_rfl) n cs i
@[go_sem] theorem T91ix2 (k g off n i) : aIndexAddr Tryd.prog 91 (.ref k g off n) i = if 0 ≤ i ∧ i < (n : Int) then some (.ptr k g (off + i.toNat * 4)) else none := ixs_ref (s := 4) (by kernel_rfl) k g off n i
@[go_sem] theorem T91sl1 (n cs lo hi) : aSlice Tryd.prog 91 (.sl n cs) lo hi = if 0 ≤ lo.getD 0 ∧ lo.getD 0 ≤ hi.getD n ∧ hi.getD n ≤ n then some (.sl ((hi.getD n).toNat - (lo.getD 0).toNat) ((cs.take ((hi.getD n).toNat * 4)).drop ((lo.getD 0).toNat * 4))) else none := sl_sl (s := 4) (by kernel_rfl) n cs lo hi
@[go_sem] theorem T91sl2 (k g off n lo hi) : aSlice Tryd.prog 91 (.ref k g off n) lo hi = if 0 ≤ lo.getD 0 ∧ lo.getD 0 ≤ hi.getD n ∧ hi.getD n ≤ n then some (.ref k g (off + (lo.getD 0).toNat * 4) ((hi.getD n).toNat - (lo.getD 0).toNat)) else none := sl_ref (s := 3) (by kernel_rfl) k g off n lo hi
@[go_sem] theorem T91cp (k g off n x o nx) : aCopy Tryd.prog 91 (.ref k g off n) x ⟨o, nx⟩ = (srcOf o x).bind fun q => (rowIf (o k) g).bind (copyR k off n 4 q.1 q.2 o nx) := cp_ref (by kernel_rfl) k g off n x o nx
@[go_sem] theorem T91ms (tg l c o nx) : aMakeSlice Tryd.prog tg 91 l c ⟨o, nx⟩ = if 0 ≤ l ∧ l ≤ c ∧ c * 32 ≤ maxB ∧ c ≤ maxB then some (.ref tg tg 0 l.toNat, ⟨upd o tg (.row ⟨90, 4, tg, false, true, rep [AV.int .i64 0, AV.int .i64 0, AV.int .i64 0, AV.int .i64 0] l.toNat⟩), nx⟩) else none := ms_eq (e := 90) (s := 3) (b := 32) (z := [AV.int .i64 0, AV.int .i64 0, AV.int .i64 0, AV.int .i64 0]) (by kernel_rfl) (by kernel_rfl) (by kernel_rfl) (by kernel_rfl) rfl tg l c o nx
@[go_sem] theorem T91bs (tg n ps o nx) : aBuildSlice Tryd.prog tg 91 n ps ⟨o, nx⟩ = if n * 4 ≤ 16777216 then (fillA (fun i => some (i * 4, 4)) (rep [AV.int .i64 0, AV.int .i64 0, AV.int .i64 0, AV.int .i64 0] n) ps).map (fun cs => (.ref tg tg 0 n, ⟨upd o tg (.row ⟨90, 4, tg, false, true, cs⟩), nx⟩)) else none := bs_eq (e := 90) (s := 3) (z := [AV.int .i64 0, AV.int .i64 0, AV.int .i64 0, AV.int .i64 0]) (by kernel_rfl) (by kernel_rfl) (by kernel_rfl) rfl tg n ps o nx
@[go_sem] theorem T91ap (tg x y o nx) : aAppend Tryd.prog tg 91 91 x y ⟨o, nx⟩ = (srcOf o y).bind fun q => appW tg 90 4 32 x q.1 q.2 o nx := ap_eq (e := 90) (s := 3) (b := 31) (z := [AV.int .i64 0, AV.int .i64 0, AV.int .i64 0, AV.int .i64 0]) (by kernel_rfl) (by kernel_rfl) (by kernel_rfl) (by kernel_rfl) rfl (by kernel_rfl) tg x y o nx
@[go_sem] theorem T92s : tSize Tryd.prog 92 = some 1 := by kernel_rfl
@[go_sem] theorem T92a : tAgg Tryd.prog 92 = some false := by kernel_rfl
@[go_sem] theorem T92z : tZero Tryd.prog 92 = some [AV.nil] := by kernel_rfl
@[go_sem] theorem T92ln0 (o) : aLen Tryd.prog o 92 .nil = some (.int .i64 0) := ln_nil (e := 25) (by kernel_rfl) o
@[go_sem] theorem T92ln1 (o n cs) : aLen Tryd.prog o 92 (.sl n cs) = some (.int .i64 n) := ln_sl (e := 25) (by kernel_rfl) o n cs
@[go_sem] theorem T92ln2 (o k g off n) : aLen Tryd.prog o 92 (.ref k g off n) = some (.int .i64 n) := ln_ref (e := 25) (by kernel_rfl) o k g off n
@[go_sem] theorem T92ix1 (n cs i) : aIndexAddr Tryd.prog 92 (.sl n cs) i = if 0 ≤ i ∧ i < (n : Int) then some (.fptr (cs.drop (i.toNat * 1))) else none := ixs_sl (s := 1) (by kernel_rfl) n cs i
@[go_sem] theorem T92ix2 (k g off n i) : aIndexAddr Tryd.prog 92 (.ref k g off n) i = if 0 ≤ i ∧ i < (n : Int) then some (.ptr k g (off + i.toNat * 1)) else none := ixs_ref (s := 1) (by kernel_rfl) k g off n i
@[go_sem] theorem T92sl1 (n cs lo hi) : aSlice Tryd.prog 92 (.sl n cs) lo hi = if 0 ≤ lo.getD 0 ∧ lo.getD 0 ≤ hi.getD n ∧ hi.getD n ≤ n then some (.sl ((hi.getD n).toNat - (lo.getD 0).toNat) ((cs.take ((hi.getD n).toNat * 1)).drop ((lo.getD 0).toNat * 1))) else none := sl_sl (s := 1) (by kernel_rfl) n cs lo hi
@[go_sem] theorem T92sl2 (k g off n lo hi) : aSlice Tryd.prog 92 (.ref k g off n) lo hi = if 0 ≤ lo.getD 0 ∧ lo.getD 0 ≤ hi.getD n ∧ hi.getD n ≤ n then some (.ref k g (off + (lo.getD 0).toNat * 1) ((hi.getD n).toNat - (lo.getD 0).toNat)) else none := sl_ref (s := 0) (by kernel_rfl) k g off n lo hi
@[go_sem] theorem T92cp (k g off n x o nx) : aCopy Tryd.prog 92 (.ref k g off n) x ⟨o, nx⟩ = (srcOf o x).bind fun q => (rowIf (o k) g).bind (copyR k off n 1 q.1 q.2 o nx) := cp_ref (by kernel_rfl) k g off n x o nx
@[go_sem] theorem T92ms (tg l c o nx) : aMakeSlice Tryd.prog tg 92 l c ⟨o, nx⟩ = if 0 ≤ l ∧ l ≤ c ∧ c * 24 ≤ maxB ∧ c ≤ maxB then some (.ref tg tg 0 l.toNat, ⟨upd o tg (.row ⟨25, 1, tg, false, true, rep [AV.nil] l.toNat⟩), nx⟩) else none := ms_eq (e := 25) (s := 0) (b := 24) (z := [AV.nil]) (by kernel_rfl) (by kernel_rfl) (by kernel_rfl) (by kernel_rfl) rfl tg l c o nx
@[go_sem] theorem T92bs (tg n ps o nx) : aBuildSlice Tryd.prog tg 92 n ps ⟨o, nx⟩ = if n * 1 ≤ 16777216 then (fillA (fun i => some (i * 1, 1)) (rep [AV.nil] n) ps).map (fun cs => (.ref tg tg 0 n, ⟨upd o tg (.row ⟨25, 1, tg, false, true, cs⟩), nx⟩)) else none := bs_eq (e := 25) (s := 0) (z := [AV.nil]) (by kernel_rfl) (by kernel_rfl) (by kernel_rfl) rfl tg n ps o nx
@[go_sem] theorem T92ap (tg x y o nx) : aAppend Tryd.prog tg 92 92 x y ⟨o, nx⟩ = (srcOf o y).bind fun q => appW tg 25 1 24 x q.1 q.2 o nx := ap_eq (e := 25) (s := 0) (b := 23) (z := [AV.nil]) (by kernel_rfl) (by kernel_rfl) (by kernel_rfl) (by kernel_rfl) rfl (by kernel_rfl) tg x y o nx
@[go_sem] theorem T97s : tSize Tryd.prog 97 = some 1 := by kernel_rfl
@[go_sem] theorem T97a : tAgg Tryd.prog 97 = some false := by kernel_rfl
@[go_sem] theorem T97z : tZero Tryd.prog 97 = some [AV.nil] := by kernel_rfl
@[go_sem] theorem T97ln0 (o) : aLen Tryd.prog o 97 .nil = some (.int .i64 0) := ln_nil (e := 4) (by kernel_rfl) o
@[go_sem] theorem T97ln1 (o n cs) : aLen Tryd.prog o 97 (.sl n cs) = some (.int .i64 n) := ln_sl (e := 4) (by kernel_rfl) o n cs
@[go_sem] theorem T97ln2 (o k g off n) : aLen Tryd.prog o 97 (.ref k g off n) = some (.int .i64 n) := ln_ref (e := 4) (by kernel_rfl) o k g off n
@[go_sem] theorem T97ix1 (n cs i) : aIndexAddr Tryd.prog 97 (.sl n cs) i = if 0 ≤ i ∧ i < (n : Int) then some (.fptr (cs.drop (i.toNat * 1))) else none := ixs_sl (s := 1) (by kernel_rfl) n cs i
@[go_sem] theorem T97ix2 (k g off n i) : aIndexAddr Tryd.prog 97 (.ref k g off n) i = if 0 ≤ i ∧ i < (n : Int) then some (.ptr k g (off + i.toNat * 1)) else none := ixs_ref (s := 1) (by kernel_rfl) k g off n i
@[go_sem] theorem T97sl1 (n cs lo hi) : aSlice Tryd.prog 97 (.sl n cs) lo hi = if 0 ≤ lo.getD 0 ∧ lo.getD 0 ≤ hi.getD n ∧ hi.getD n ≤ n then some (.sl ((hi.getD n).toNat - (lo.getD 0).toNat) ((cs.take ((hi.getD n).toNat * 1)).drop ((lo.getD 0).toNat * 1))) else none := sl_sl (s := 1) (by kernel_rfl) n cs lo hi
@[go_sem] theorem T97sl2 (k g off n lo hi) : aSlice Tryd.prog 97 (.ref k g off n) lo hi = if 0 ≤ lo.getD 0 ∧ lo.getD 0 ≤ hi.getD n ∧ hi.getD n ≤ n then some (.ref k g (off + (lo.getD 0).toNat * 1) ((hi.getD n).toNat - (lo.getD 0).toNat)) else none := sl_ref (s := 0) (by kernel_rfl) k g off n lo hi
@[go_sem] theorem T97cp (k g off n x o nx) : aCopy Tryd.prog 97 (.ref k g off n) x ⟨o, nx⟩ = (srcOf o x).bind fun q => (rowIf (o k) g).bind (copyR k off n 1 q.1 q.2 o nx) := cp_ref (by kernel_rfl) k g off n x o nx
@[go_sem] theorem T97ms (tg l c o nx) : aMakeSlice Tryd.prog tg 97 l c ⟨o, nx⟩ = if 0 ≤ l ∧ l ≤ c ∧ c * 1 ≤ maxB ∧ c ≤ maxB then some (.ref tg tg 0 l.toNat, ⟨upd o tg (.row ⟨4, 1, tg, false, true, rep [AV.bool false] l.toNat⟩), nx⟩) else none := ms_eq (e := 4) (s := 0) (b := 1) (z := [AV.bool false]) (by kernel_rfl) (by kernel_rfl) (by kernel_rfl) (by kernel_rfl) rfl tg l c o nx
@[go_sem] theorem T97bs (tg n ps o nx) : aBuildSlice Tryd.prog tg 97 n ps ⟨o, nx⟩ = if n * 1 ≤ 16777216 then (fillA (fun i => some (i * 1, 1)) (rep [AV.bool false] n) ps).map (fun cs => (.ref tg tg 0 n, ⟨upd o tg (.row ⟨4, 1, tg, false, true, cs⟩), nx⟩)) else none := bs_eq (e := 4) (s := 0) (z := [AV.bool false]) (by kernel_rfl) (by kernel_rfl) (by kernel_rfl) rfl tg n ps o nx
@[go_sem] theorem T97ap (tg x y o nx) : aAppend Tryd.prog tg 97 97 x y ⟨o, nx⟩ = (srcOf o y).bind fun q => appW tg 4 1 1 x q.1 q.2 o nx := ap_eq (e := 4) (s := 0) (b := 0) (z := [AV.bool false]) (by kernel_rfl) (by kernel_rfl) (by kernel_rfl) (by kernel_rfl) rfl (by kernel_rfl) tg x y o nx
@[go_sem] theorem T100s : tSize Tryd.prog 100 = some 2 := by kernel_rfl
@[go_sem] theorem T100a : tAgg Tryd.prog 100 = some true := by kernel_rfl
@[go_sem] theorem T100z : tZero Tryd.prog 100 = some [AV.int .i64 0, AV.int .i64 0] := by kernel_rfl
@[go_sem] theorem T100ln (o x) : aLen Tryd.prog o 100 x = some (.int .i64 2) := ln_arr (e := 3) (by kernel_rfl) o x
@[go_sem] theorem T100ix1 (cs i) : aIndexAddr Tryd.prog 100 (.fptr cs) i = if 0 ≤ i ∧ i < 2 then some (.fptr (cs.drop (i.toNat * 1))) else none := ixa_fptr (n := 2) (e := 3) (s := 1) (by kernel_rfl) (by kernel_rfl) cs i
@[go_sem] theorem T100ix2 (k g off i) : aIndexAddr Tryd.prog 100 (.ptr k g off) i = if 0 ≤ i ∧ i < 2 then some (.ptr k g (off + i.toNat * 1)) else none := ixa_ptr (n := 2) (e := 3) (s := 1) (by kernel_rfl) (by kernel_rfl) k g off i
@[go_sem] theorem T100iv (cs i) : aIndex Tryd.prog 100 (.agg cs) i = if 0 ≤ i ∧ i < 2 then takeT Tryd.prog 3 (cs.drop (i.toNat * 1)) else none := ixv_agg (n := 2) (e := 3) (s := 1) (by kernel_rfl) (by kernel_rfl) cs i
@[go_sem] theorem T100bd (xs) : aBuild Tryd.prog 100 xs = (fillA (fun i => some (i * 1, 1)) [AV.int .i64 0, AV.int .i64 0] xs).map .agg := bd_array (n := 2) (e := 3) (by kernel_rfl) (by kernel_rfl) (by kernel_rfl) xs
@[go_sem] theorem T100lf : eqLeaves Tryd.prog 100 = some [Leaf.int, Leaf.int] := by kernel_rfl
@[go_sem] theorem T101s : tSize Tryd.prog 101 = some 1 := by kernel_rfl
@[go_sem] theorem T101a : tAgg Tryd.prog 101 = some false := by kernel_rfl
@[go_sem] theorem T101z : tZero Tryd.prog 101 = some [AV.nilmp] := by kernel_rfl
@[go_sem] theorem T101lk (m x y ok o nx) : aLookup Tryd.prog 101 (.mp m) (.agg [.int .i64 x, .int .i64 y]) ok ⟨o, nx⟩ = (mapIf (o m)).bind fun es => (findA (.agg [.int .i64 x, .int .i64 y]) es).map (lkV ok (AV.bool false)) := lk_eq (kt := 100) (et := 4) (z := (AV.bool false)) (k := .agg [.int .i64 x, .int .i64 y]) (by kernel_rfl) (by kernel_rfl) (by kernel_rfl) m ok o nx
@[go_sem] theorem T101mu (m x y v o nx) : aMapUpdate Tryd.prog 101 (.mp m) (.agg [.int .i64 x, .int .i64 y]) v ⟨o, nx⟩ = (mapIf (o m)).bind (updM m (.agg [.int .i64 x, .int .i64 y]) v o nx) := mu_eq (kt := 100) (et := 4) (k := .agg [.int .i64 x, .int .i64 y]) (by kernel_rfl) (by kernel_rfl) m v o nx
@[go_sem] theorem T102s : tSize Tryd.prog 102 = some 4 := by kernel_rfl
@[go_sem] theorem T102a : tAgg Tryd.prog 102 = some true := by kernel_rfl
@[go_sem] theorem T102z : tZero Tryd.prog 102 = some [AV.int .i64 0, AV.int .i64 0, AV.int .i64 0, AV.int .i64 0] := by kernel_rfl
@[go_sem] theorem T102f0p (k g off) : fieldAddrA Tryd.prog 102 0 (.ptr k g off) = some (.ptr k g (off + 0)) := fa_ptr (s := 1) (ft := 100) (by kernel_rfl) (by kernel_rfl) k g off
@[go_sem] theorem T102f0q (cs) : fieldAddrA Tryd.prog 102 0 (.fptr cs) = some (.fptr (cs.drop 0)) := fa_fptr (s := 1) (ft := 100) (by kernel_rfl) (by kernel_rfl) cs
@[go_sem] theorem T102f0v (cs) : fieldA Tryd.prog 102 0 (.agg cs) = takeT Tryd.prog 100 (cs.drop 0) := fi_agg (by kernel_rfl) cs
@[go_sem] theorem T102f1p (k g off) : fieldAddrA Tryd.prog 102 1 (.ptr k g off) = some (.ptr k g (off + 2)) := fa_ptr (s := 0) (ft := 3) (by kernel_rfl) (by kernel_rfl) k g off
@[go_sem] theorem T102f1q (cs) : fieldAddrA Tryd.prog 102 1 (.fptr cs) = some (.fptr (cs.drop 2)) := fa_fptr (s := 0) (ft := 3) (by kernel_rfl) (by kernel_rfl) cs
@[go_sem] theorem T102f1v (cs) : fieldA Tryd.prog 102 1 (.agg cs) = takeT Tryd.prog 3 (cs.drop 2) := fi_agg (by kernel_rfl) cs
@[go_sem] theorem T102f2p (k g off) : fieldAddrA Tryd.prog 102 2 (.ptr k g off) = some (.ptr k g (off + 3)) := fa_ptr (s := 0) (ft := 3) (by kernel_rfl) (by kernel_rfl) k g off
@[go_sem] theorem T102f2q (cs) : fieldAddrA Tryd.prog 102 2 (.fptr cs) = some (.fptr (cs.drop 3)) := fa_fptr (s := 0) (ft := 3) (by kernel_rfl) (by kernel_rfl) cs
@[go_sem] theorem T102f2v (cs) : fieldA Tryd.prog 102 2 (.agg cs) = takeT Tryd.prog 3 (cs.drop 3) := fi_agg (by kernel_rfl) cs
@[go_sem] theorem T102bd (xs) : aBuild Tryd.prog 102 xs = (fillA (fun i => ([(0, 2), (2, 1), (3, 1)] : List (Nat × Nat))[i]?) [AV.int .i64 0, AV.int .i64 0, AV.int .i64 0, AV.int .i64 0] xs).map .agg := by kernel_rfl
@[go_sem] theorem T102lf : eqLeaves Tryd.prog 102 = some [Leaf.int, Leaf.int, Leaf.int, Leaf.int] := by kernel_rfl
@[go_sem] theorem T103s : tSize Tryd.prog 103 = some 4 := by kernel_rfl
@[go_sem] theorem T103a : tAgg Tryd.prog 103 = some true := by kernel_rfl
@[go_sem] theorem T103z : tZero Tryd.prog 103 = some [AV.int .i64 0, AV.int .i64 0, AV.int .i64 0, AV.int .i64 0] := by kernel_rfl
@[go_sem] theorem T103f0p (k g off) : fieldAddrA Tryd.prog 103 0 (.ptr k g off) = some (.ptr k g (off + 0)) := fa_ptr (s := 1) (ft := 100) (by kernel_rfl) (by kernel_rfl) k g off
@[go_sem] theorem T103f0q (cs) : fieldAddrA Tryd.prog 103 0 (.fptr cs) = some (.fptr (cs.drop 0)) := fa_fptr (s := 1) (ft := 100) (by kernel_rfl) (by kernel_rfl) cs
@[go_sem] theorem T103f0v (cs) : fieldA Tryd.prog 103 0 (.agg cs) = takeT Tryd.prog 100 (cs.drop 0) := fi_agg (by kernel_rfl) cs
@[go_sem] theorem T103f1p (k g off) : fieldAddrA Tryd.prog 103 1 (.ptr k g off) = some (.ptr k g (off + 2)) := fa_ptr (s := 0) (ft := 3) (by kernel_rfl) (by kernel_rfl) k g off
@[go_sem] theorem T103f1q (cs) : fieldAddrA Tryd.prog 103 1 (.fptr cs) = some (.fptr (cs.drop 2)) := fa_fptr (s := 0) (ft := 3) (by kernel_rfl) (by kernel_rfl) cs
@[go_sem] theorem T103f1v (cs) : fieldA Tryd.prog 103 1 (.agg cs) = takeT Tryd.prog 3 (cs.drop 2) := fi_agg (by kernel_rfl) cs
@[go_sem] theorem T103f2p (k g off) : fieldAddrA Tryd.prog 103 2 (.ptr k g off) = some (.ptr k g (off + 3)) := fa_ptr (s := 0) (ft := 3) (by kernel_rfl) (by kernel_rfl) k g off
@[go_sem] theorem T103f2q (cs) : fieldAddrA Tryd.prog 103 2 (.fptr cs) = some (.fptr (cs.drop 3)) := fa_fptr (s := 0) (ft := 3) (by kernel_rfl) (by kernel_rfl) cs
@[go_sem] theorem T103f2v (cs) : fieldA Tryd.prog 103 2 (.agg cs) = takeT Tryd.prog 3 (cs.drop 3) := fi_agg (by kernel_rfl) cs
@[go_sem] theorem T103bd (xs) : aBuild Tryd.prog 103 xs = (fillA (fun i => ([(0, 2), (2, 1), (3, 1)] : List (Nat × Nat))[i]?) [AV.int .i64 0, AV.int .i64 0, AV.int .i64 0, AV.int .i64 0] xs).map .agg := by kernel_rfl
@[go_sem] theorem T103lf : eqLeaves Tryd.prog 103 = some [Leaf.int, Leaf.int, Leaf.int, Leaf.int] := by kernel_rfl
@[go_sem] theorem T104s : tSize Tryd.prog 104 = some 1 := by kernel_rfl
@[go_sem] theorem T104a : tAgg Tryd.prog 104 = some false := by kernel_rfl
@[go_sem] theorem T104z : tZero Tryd.prog 104 = some [AV.nil] := by kernel_rfl
@[go_sem] theorem T104ln0 (o) : aLen Tryd.prog o 104 .nil = some (.int .i64 0) := ln_nil (e := 103) (by kernel_rfl) o
@[go_sem] theorem T104ln1 (o n cs) : aLen Tryd.prog o 104 (.sl n cs) = some (.int .i64 n) := ln_sl (e := 103) (by kernel_rfl) o n cs
@[go_sem] theorem T104ln2 (o k g off n) : aLen Tryd.prog o 104 (.ref k g off n) = some (.int .i64 n) := ln_ref (e := 103) (by kernel_rfl) o k g off n
@[go_sem] theorem T104ix1 (n cs i) : aIndexAddr Tryd.prog 104 (.sl n cs) i = if 0 ≤ i ∧ i < (n : Int) then some (.fptr (cs.drop (i.toNat * 4))) else none := ixs_sl (s := 4) (by kernel_rfl) n cs i
@[go_sem] theorem T104ix2 (k g off n i) : aIndexAddr Tryd.prog 104 (.ref k g off n) i = if 0 ≤ i ∧ i < (n : Int) then some (.ptr k g (off + i.toNat * 4)) else none := ixs_ref (s := 4) (by kernel_rfl) k g off n i
@[go_sem] theorem T104sl1 (n cs lo hi) : aSlice Tryd.prog 104 (.sl n cs) lo hi = if 0 ≤ lo.getD 0 ∧ lo.getD 0 ≤ hi.getD n ∧ hi.getD n ≤ n then some (.sl ((hi.getD n).toNat - (lo.getD 0).toNat) ((cs.take ((hi.getD n).toNat * 4)).drop ((lo.getD 0).toNat * 4))) else none := sl_sl (s := 4) (by kernel_rfl) n cs lo hi
@[go_sem] theorem T104sl2 (k g off n lo hi) : aSlice Tryd.prog 104 (.ref k g off n) lo hi = if 0 ≤ lo.getD 0 ∧ lo.getD 0 ≤ hi.getD n ∧ hi.getD n ≤ n then some (.ref k g (off + (lo.getD 0).toNat * 4) ((hi.getD n).toNat - (lo.getD 0).toNat)) else none := sl_ref (s := 3) (by kernel_rfl) k g off n lo hi
@[go_sem] theorem T104cp (k g off n x o nx) : aCopy Tryd.prog 104 (.ref k g off n) x ⟨o, nx⟩ = (srcOf o x).bind fun q => (rowIf (o k) g).bind (copyR k off n 4 q.1 q.2 o nx) := cp_ref (by kernel_rfl) k g off n x o nx
@[go_sem] theorem T104ms (tg l c o nx) : aMakeSlice Tryd.prog tg 104 l c ⟨o, nx⟩ = if 0 ≤ l ∧ l ≤ c ∧ c * 32 ≤ maxB ∧ c ≤ maxB then some (.ref tg tg 0 l.toNat, ⟨upd o tg (.row ⟨103, 4, tg, false, true, rep [AV.int .i64 0, AV.int .i64 0, AV.int .i64 0, AV.int .i64 0] l.toNat⟩), nx⟩) else none := ms_eq (e := 103) (s := 3) (b := 32) (z := [AV.int .i64 0, AV.int .i64 0, AV.int .i64 0, AV.int .i64 0]) (by kernel_rfl) (by kernel_rfl) (by kernel_rfl) (by kernel_rfl) rfl tg l c o nx
@[go_sem] theorem T104bs (tg n ps o nx) : aBuildSlice Tryd.prog tg 104 n ps ⟨o, nx⟩ = if n * 4 ≤ 16777216 then (fillA (fun i => some (i * 4, 4)) (rep [AV.int .i64 0, AV.int .i64 0, AV.int .i64 0, AV.int .i64 0] n) ps).map (fun cs => (.ref tg tg 0 n, ⟨upd o tg (.row ⟨103, 4, tg, false, true, cs⟩), nx⟩)) else none := bs_eq (e := 103) (s := 3) (z := [AV.int .i64 0, AV.int .i64 0, AV.int .i64 0, AV.int .i64 0]) (by kernel_rfl) (by kernel_rfl) (by kernel_rfl) rfl tg n ps o nx
@[go_sem] theorem T104ap (tg x y o nx) : aAppend Tryd.prog tg 104 104 x y ⟨o, nx⟩ = (srcOf o y).bind fun q => appW tg 103 4 32 x q.1 q.2 o nx := ap_eq (e := 103) (s := 3) (b := 31) (z := [AV.int .i64 0, AV.int .i64 0, AV.int .i64 0, AV.int .i64 0]) (by kernel_rfl) (by kernel_rfl) (by kernel_rfl) (by kernel_rfl) rfl (by kernel_rfl) tg x y o nx
@[go_sem] theorem T108s : tSize Tryd.prog 108 = some 1 := by kernel_rfl
@[go_sem] theorem T108a : tAgg Tryd.prog 108 = some false := by kernel_rfl
@[go_sem] theorem T108z : tZero Tryd.prog 108 = some [AV.nil] := by kernel_rfl
@[go_sem] theorem T108ln0 (o) : aLen Tryd.prog o 108 .nil = some (.int .i64 0) := ln_nil (e := 110) (by kernel_rfl) o
@[go_sem] theorem T108ln1 (o n cs) : aLen Tryd.prog o 108 (.sl n cs) = some (.int .i64 n) := ln_sl (e := 110) (by kernel_rfl) o n cs
@[go_sem] theorem T108ln2 (o k g off n) : aLen Tryd.prog o 108 (.ref k g off n) = some (.int .i64 n) := ln_ref (e := 110) (by kernel_rfl) o k g off n
@[go_sem] theorem T108ix1 (n cs i) : aIndexAddr Tryd.prog 108 (.sl n cs) i = if 0 ≤ i ∧ i < (n : Int) then some (.fptr (cs.drop (i.toNat * 6))) else none := ixs_sl (s := 6) (by kernel_rfl) n cs i
@[go_sem] theorem T108ix2 (k g off n i) : aIndexAddr Tryd.prog 108 (.ref k g off n) i = if 0 ≤ i ∧ i < (n : Int) then some (.ptr k g (off + i.toNat * 6)) else none := ixs_ref (s := 6) (by kernel_rfl) k g off n i
@[go_sem] theorem T108sl1 (n cs lo hi) : aSlice Tryd.prog 108 (.sl n cs) lo hi = if 0 ≤ lo.getD 0 ∧ lo.getD 0 ≤ hi.getD n ∧ hi.getD n ≤ n then some (.sl ((hi.getD n).toNat - (lo.getD 0).toNat) ((cs.take ((hi.getD n).toNat * 6)).drop ((lo.getD 0).toNat * 6))) else none := sl_sl (s := 6) (by kernel_rfl) n cs lo hi
@[go_sem] theorem T108sl2 (k g off n lo hi) : aSlice Tryd.prog 108 (.ref k g off n) lo hi = if 0 ≤ lo.getD 0 ∧ lo.getD 0 ≤ hi.getD n ∧ hi.getD n ≤ n then some (.ref k g (off + (lo.getD 0).toNat * 6) ((hi.getD n).toNat - (lo.getD 0).toNat)) else none := sl_ref (s := 5) (by kernel_rfl) k g off n lo hi
@[go_sem] theorem T108cp (k g off n x o nx) : aCopy Tryd.prog 108 (.ref k g off n) x ⟨o, nx⟩ = (srcOf o x).bind fun q => (rowIf (o k) g).bind (copyR k off n 6 q.1 q.2 o nx) := cp_ref (by kernel_rfl) k g off n x o nx
@[go_sem] theorem T108ms (tg l c o nx) : aMakeSlice Tryd.prog tg 108 l c ⟨o, nx⟩ = if 0 ≤ l ∧ l ≤ c ∧ c * 48 ≤ maxB ∧ c ≤ maxB then some (.ref tg tg 0 l.toNat, ⟨upd o tg (.row ⟨110, 6, tg, false, true, rep [AV.int .i64 0, AV.int .i64 0, AV.int .i64 0, AV.int .i64 0, AV.int .i64 0, AV.int .i64 0] l.toNat⟩), nx⟩) else none := ms_eq (e := 110) (s := 5) (b := 48) (z := [AV.int .i64 0, AV.int .i64 0, AV.int .i64 0, AV.int .i64 0, AV.int .i64 0, AV.int .i64 0]) (by kernel_rfl) (by kernel_rfl) (by kernel_rfl) (by kernel_rfl) rfl tg l c o nx
@[go_sem] theorem T108bs (tg n ps o nx) : aBuildSlice Tryd.prog tg 108 n ps ⟨o, nx⟩ = if n * 6 ≤ 16777216 then (fillA (fun i => some (i * 6, 6)) (rep [AV.int .i64 0, AV.int .i64 0, AV.int .i64 0, AV.int .i64 0, AV.int .i64 0, AV.int .i64 0] n) ps).map (fun cs => (.ref tg tg 0 n, ⟨upd o tg (.row ⟨110, 6, tg, false, true, cs⟩), nx⟩)) else none := bs_eq (e := 110) (s := 5) (z := [AV.int .i64 0, AV.int .i64 0, AV.int .i64 0, AV.int .i64 0, AV.int .i64 0, AV.int .i64 0]) (by kernel_rfl) (by kernel_rfl) (by kernel_rfl) rfl tg n ps o nx
@[go_sem] theorem T108ap (tg x y o nx) : aAppend Tryd.prog tg 108 108 x y ⟨o, nx⟩ = (srcOf o y).bind fun q => appW tg 110 6 48 x q.1 q.2 o nx := ap_eq (e := 110) (s := 5) (b := 47) (z := [AV.int .i64 0, AV.int .i64 0, AV.int .i64 0, AV.int .i64 0, AV.int .i64 0, AV.int .i64 0]) (by kernel_rfl) (by kernel_rfl) (by kernel_rfl) (by kernel_rfl) rfl (by kernel_rfl) tg x y o nx
@[go_sem] theorem T109s : tSize Tryd.prog 109 = some 6 := by kernel_rfl
@[go_sem] theorem T109a : tAgg Tryd.prog 109 = some true := by kernel_rfl
@[go_sem] theorem T109z : tZero Tryd.prog 109 = some [AV.int .i64 0, AV.int .i64 0, AV.int .i64 0, AV.int .i64 0, AV.int .i64 0, AV.int .i64 0] := by kernel_rfl
@[go_sem] theorem T109ln (o x) : aLen Tryd.prog o 109 x = some (.int .i64 6) := ln_arr (e := 3) (by kernel_rfl) o x
@[go_sem] theorem T109ix1 (cs i) : aIndexAddr Tryd.prog 109 (.fptr cs) i = if 0 ≤ i ∧ i < 6 then some (.fptr (cs.drop (i.toNat * 1))) else none := ixa_fptr (n := 6) (e := 3) (s := 1) (by kernel_rfl) (by kernel_rfl) cs i
@[go_sem] theorem T109ix2 (k g off i) : aIndexAddr Tryd.prog 109 (.ptr k g off) i = if 0 ≤ i ∧ i < 6 then some (.ptr k g (off + i.toNat * 1)) else none := ixa_ptr (n := 6) (e := 3) (s := 1) (by kernel_rfl) (by kernel_rfl) k g off i
@[go_sem] theorem T109iv (cs i) : aIndex Tryd.prog 109 (.agg cs) i = if 0 ≤ i ∧ i < 6 then takeT Tryd.prog 3 (cs.drop (i.toNat * 1)) else none := ixv_agg (n := 6) (e := 3) (s := 1) (by kernel_rfl) (by kernel_rfl) cs i
@[go_sem] theorem T109bd (xs) : aBuild Tryd.prog 109 xs = (fillA (fun i => some (i * 1, 1)) [AV.int .i64 0, AV.int .i64 0, AV.int .i64 0, AV.int .i64 0, AV.int .i64 0, AV.int .i64 0] xs).map .agg := bd_array (n := 6) (e := 3) (by kernel_rfl) (by kernel_rfl) (by kernel_rfl) xs
@[go_sem] theorem T109lf : eqLeaves Tryd.prog 109 = some [Leaf.int, Leaf.int, Leaf.int, Leaf.int, Leaf.int, Leaf.int] := by kernel_rfl
@[go_sem] theorem T110s : tSize Tryd.prog 110 = some 6 := by kernel_rfl
@[go_sem] theorem T110a : tAgg Tryd.prog 110 = some true := by kernel_rfl
@[go_sem] theorem T110z : tZero Tryd.prog 110 = some [AV.int .i64 0, AV.int .i64 0, AV.int .i64 0, AV.int .i64 0, AV.int .i64 0, AV.int .i64 0] := by kernel_rfl
@[go_sem] theorem T110ln (o x) : aLen Tryd.prog o 110 x = some (.int .i64 6) := ln_arr (e := 3) (by kernel_rfl) o x
@[go_sem] theorem T110ix1 (cs i) : aIndexAddr Tryd.prog 110 (.fptr cs) i = if 0 ≤ i ∧ i < 6 then some (.fptr (cs.drop (i.toNat * 1))) else none := ixa_fptr (n := 6) (e := 3) (s := 1) (by kernel_rfl) (by kernel_rfl) cs i
@[go_sem] theorem T110ix2 (k g off i) : aIndexAddr Tryd.prog 110 (.ptr k g off) i = if 0 ≤ i ∧ i < 6 then some (.ptr k g (off + i.toNat * 1)) else none := ixa_ptr (n := 6) (e := 3) (s := 1) (by kernel_rfl) (by kernel_rfl) k g off i
@[go_sem] theorem T110iv (cs i) : aIndex Tryd.prog 110 (.agg cs) i = if 0 ≤ i ∧ i < 6 then takeT Tryd.prog 3 (cs.drop (i.toNat * 1)) else none := ixv_agg (n := 6) (e := 3) (s := 1) (by kernel_rfl) (by kernel_rfl) cs i
@[go_sem] theorem T110bd (xs) : aBuild Tryd.prog 110 xs = (fillA (fun i => some (i * 1, 1)) [AV.int .i64 0, AV.int .i64 0, AV.int .i64 0, AV.int .i64 0, AV.int .i64 0, AV.int .i64 0] xs).map .agg := bd_array (n := 6) (e := 3) (by kernel_rfl) (by kernel_rfl) (by kernel_rfl) xs
@[go_sem] theorem T110lf : eqLeaves Tryd.prog 110 = some [Leaf.int, Leaf.int, Leaf.int, Leaf.int, Leaf.int, Leaf.int] := by kernel_rfl
@[go_sem] theorem T116s : tSize Tryd.prog 116 = some 1 := by kernel_rfl
@[go_sem] theorem T116a : tAgg Tryd.prog 116 = some false := by kernel_rfl
@[go_sem] theorem T116z : tZero Tryd.prog 116 = some [AV.nilp] := by kernel_rfl
@[go_sem] theorem T117s : tSize Tryd.prog 117 = some 2 := by kernel_rfl
@[go_sem] theorem T117a : tAgg Tryd.prog 117 = some true := by kernel_rfl
@[go_sem] theorem T117z : tZero Tryd.prog 117 = some [AV.nil, AV.nil] := by kernel_rfl
@[go_sem] theorem T117f0p (k g off) : fieldAddrA Tryd.prog 117 0 (.ptr k g off) = some (.ptr k g (off + 0)) := fa_ptr (s := 0) (ft := 35) (by kernel_rfl) (by kernel_rfl) k g off
@[go_sem] theorem T117f0q (cs) : fieldAddrA Tryd.prog 117 0 (.fptr cs) = some (.fptr (cs.drop 0)) := fa_fptr (s := 0) (ft := 35) (by kernel_rfl) (by kernel_rfl) cs
@[go_sem] theorem T117f0v (cs) : fieldA Tryd.prog 117 0 (.agg cs) = takeT Tryd.prog 35 (cs.drop 0) := fi_agg (by kernel_rfl) cs
@[go_sem] theorem T117f1p (k g off) : fieldAddrA Tryd.prog 117 1 (.ptr k g off) = some (.ptr k g (off + 1)) := fa_ptr (s := 0) (ft := 35) (by kernel_rfl) (by kernel_rfl) k g off
@[go_sem] theorem T117f1q (cs) : fieldAddrA Tryd.prog 117 1 (.fptr cs) = some (.fptr (cs.drop 1)) := fa_fptr (s := 0) (ft := 35) (by kernel_rfl) (by kernel_rfl) cs
@[go_sem] theorem T117f1v (cs) : fieldA Tryd.prog 117 1 (.agg cs) = takeT Tryd.prog 35 (cs.drop 1) := fi_agg (by kernel_rfl) cs
@[go_sem] theorem T117bd (xs) : aBuild Tryd.prog 117 xs = (fillA (fun i => ([(0, 1), (1, 1)] : List (Nat × Nat))[i]?) [AV.nil, AV.nil] xs).map .agg := by kernel_rfl
@[go_sem] theorem T118s : tSize Tryd.prog 118 = some 2 := by kernel_rfl
@[go_sem] theorem T118a : tAgg Tryd.prog 118 = some true := by kernel_rfl
@[go_sem] theorem T118z : tZero Tryd.prog 118 = some [AV.nil, AV.nil] := by kernel_rfl
@[go_sem] theorem T118f0p (k g off) : fieldAddrA Tryd.prog 118 0 (.ptr k g off) = some (.ptr k g (off + 0)) := fa_ptr (s := 0) (ft := 35) (by kernel_rfl) (by kernel_rfl) k g off
@[go_sem] theorem T118f0q (cs) : fieldAddrA Tryd.prog 118 0 (.fptr cs) = some (.fptr (cs.drop 0)) := fa_fptr (s := 0) (ft := 35) (by kernel_rfl) (by kernel_rfl) cs
@[go_sem] theorem T118f0v (cs) : fieldA Tryd.prog 118 0 (.agg cs) = takeT Tryd.prog 35 (cs.drop 0) := fi_agg (by kernel_rfl) cs
@[go_sem] theorem T118f1p (k g off) : fieldAddrA Tryd.prog 118 1 (.ptr k g off) = some (.ptr k g (off + 1)) := fa_ptr (s := 0) (ft := 35) (by kernel_rfl) (by kernel_rfl) k g off
@[go_sem] theorem T118f1q (cs) : fieldAddrA Tryd.prog 118 1 (.fptr cs) = some (.fptr (cs.drop 1)) := fa_fptr (s := 0) (ft := 35) (by kernel_rfl) (by kernel_rfl) cs
@[go_sem] theorem T118f1v (cs) : fieldA Tryd.prog 118 1 (.agg cs) = takeT Tryd.prog 35 (cs.drop 1) := fi_agg (by kernel_rfl) cs
@[go_sem] theorem T118bd (xs) : aBuild Tryd.prog 118 xs = (fillA (fun i => ([(0, 1), (1, 1)] : List (Nat × Nat))[i]?) [AV.nil, AV.nil] xs).map .agg := by kernel_rfl
@[go_sem] theorem T119s : tSize Tryd.prog 119 = some 1 := by kernel_rfl
@[go_sem] theorem T119a : tAgg Tryd.prog 119 = some false := by kernel_rfl
@[go_sem] theorem T119z : tZero Tryd.prog 119 = some [AV.nil] := by kernel_rfl
@[go_sem] theorem T119ln0 (o) : aLen Tryd.prog o 119 .nil = some (.int .i64 0) := ln_nil (e := 118) (by kernel_rfl) o
@[go_sem] theorem T119ln1 (o n cs) : aLen Tryd.prog o 119 (.sl n cs) = some (.int .i64 n) := ln_sl (e := 118) (by kernel_rfl) o n cs
@[go_sem] theorem T119ln2 (o k g off n) : aLen Tryd.prog o 119 (.ref k g off n) = some (.int .i64 n) := ln_ref (e := 118) (by kernel_rfl) o k g off n
@[go_sem] theorem T119ix1 (n cs i) : aIndexAddr Tryd.prog 119 (.sl n cs) i = if 0 ≤ i ∧ i < (n : Int) then some (.fptr (cs.drop (i.toNat * 2))) else none := ixs_sl (s := 2) (by kernel_rfl) n cs i
@[go_sem] theorem T119ix2 (k g off n i) : aIndexAddr Tryd.prog 119 (.ref k g off n) i = if 0 ≤ i ∧ i < (n : Int) then some (.ptr k g (off + i.toNat * 2)) else none := ixs_ref (s := 2) (by kernel_rfl) k g off n i
@[go_sem] theorem T119sl1 (n cs lo hi) : aSlice Tryd.prog 119 (.sl n cs) lo hi = if 0 ≤ lo.getD 0 ∧ lo.getD 0 ≤ hi.getD n ∧ hi.getD n ≤ n then some (.sl ((hi.getD n).toNat - (lo.getD 0).toNat) ((cs.take ((hi.getD n).toNat * 2)).drop ((lo.getD 0).toNat * 2))) else none := sl_sl (s := 2) (by kernel_rfl) n cs lo hi
@[go_sem] theorem T119sl2 (k g off n lo hi) : aSlice Tryd.prog 119 (.ref k g off n) lo hi = if 0 ≤ lo.getD 0 ∧ lo.getD 0 ≤ hi.getD n ∧ hi.getD n ≤ n then some (.ref k g (off + (lo.getD 0).toNat * 2) ((hi.getD n).toNat - (lo.getD 0).toNat)) else none := sl_ref (s := 1) (by kernel_rfl) k g off n lo hi
@[go_sem] theorem T119cp (k g off n x o nx) : aCopy Tryd.prog 119 (.ref k g off n) x ⟨o, nx⟩ = (srcOf o x).bind fun q => (rowIf (o k) g).bind (copyR k off n 2 q.1 q.2 o nx) := cp_ref (by kernel_rfl) k g off n x o nx
@[go_sem] theorem T119ms (tg l c o nx) : aMakeSlice Tryd.prog tg 119 l c ⟨o, nx⟩ = if 0 ≤ l ∧ l ≤ c ∧ c * 48 ≤ maxB ∧ c ≤ maxB then some (.ref tg tg 0 l.toNat, ⟨upd o tg (.row ⟨118, 2, tg, false, true, rep [AV.nil, AV.nil] l.toNat⟩), nx⟩) else none := ms_eq (e := 118) (s := 1) (b := 48) (z := [AV.nil, AV.nil]) (by kernel_rfl) (by kernel_rfl) (by kernel_rfl) (by kernel_rfl) rfl tg l c o nx
@[go_sem] theorem T119bs (tg n ps o nx) : aBuildSlice Tryd.prog tg 119 n ps ⟨o, nx⟩ = if n * 2 ≤ 16777216 then (fillA (fun i => some (i * 2, 2)) (rep [AV.nil, AV.nil] n) ps).map (fun cs => (.ref tg tg 0 n, ⟨upd o tg (.row ⟨118, 2, tg, false, true, cs⟩), nx⟩)) else none := bs_eq (e := 118) (s := 1) (z := [AV.nil, AV.nil]) (by kernel_rfl) (by kernel_rfl) (by kernel_rfl) rfl tg n ps o nx
@[go_sem] theorem T119ap (tg x y o nx) : aAppend Tryd.prog tg 119 119 x y ⟨o, nx⟩ = (srcOf o y).bind fun q => appW tg 118 2 48 x q.1 q.2 o nx := ap_eq (e := 118) (s := 1) (b := 47) (z := [AV.nil, AV.nil]) (by kernel_rfl) (by kernel_rfl) (by kernel_rfl) (by kernel_rfl) rfl (by kernel_rfl) tg x y o nx
@[go_sem] theorem T120s : tSize Tryd.prog 120 = some 3 := by kernel_rfl
@[go_sem] theorem T120a : tAgg Tryd.prog 120 = some true := by kernel_rfl
@[go_sem] theorem T120z : tZero Tryd.prog 120 = some [AV.str [], AV.int .i64 0, AV.nil] := by kernel_rfl
@[go_sem] theorem T120f0p (k g off) : fieldAddrA Tryd.prog 120 0 (.ptr k g off) = some (.ptr k g (off + 0)) := fa_ptr (s := 0) (ft := 9) (by kernel_rfl) (by kernel_rfl) k g off
@[go_sem] theorem T120f0q (cs) : fieldAddrA Tryd.prog 120 0 (.fptr cs) = some (.fptr (cs.drop 0)) := fa_fptr (s := 0) (ft := 9) (by kernel_rfl) (by kernel_rfl) cs
@[go_sem] theorem T120f0v (cs) : fieldA Tryd.prog 120 0 (.agg cs) = takeT Tryd.prog 9 (cs.drop 0) := fi_agg (by kernel_rfl) cs
@[go_sem] theorem T120f1p (k g off) : fieldAddrA Tryd.prog 120 1 (.ptr k g off) = some (.ptr k g (off + 1)) := fa_ptr (s := 0) (ft := 3) (by kernel_rfl) (by kernel_rfl) k g off
@[go_sem] theorem T120f1q (cs) : fieldAddrA Tryd.prog 120 1 (.fptr cs) = some (.fptr (cs.drop 1)) := fa_fptr (s := 0) (ft := 3) (by kernel_rfl) (by kernel_rfl) cs
@[go_sem] theorem T120f1v (cs) : fieldA Tryd.prog 120 1 (.agg cs) = takeT Tryd.prog 3 (cs.drop 1) := fi_agg (by kernel_rfl) cs
@[go_sem] theorem T120f2p (k g off) : fieldAddrA Tryd.prog 120 2 (.ptr k g off) = some (.ptr k g (off + 2)) := fa_ptr (s := 0) (ft := 119) (by kernel_rfl) (by kernel_rfl) k g off
@[go_sem] theorem T120f2q (cs) : fieldAddrA Tryd.prog 120 2 (.fptr cs) = some (.fptr (cs.drop 2)) := fa_fptr (s := 0) (ft := 119) (by kernel_rfl) (by kernel_rfl) cs
@[go_sem] theorem T120f2v (cs) : fieldA Tryd.prog 120 2 (.agg cs) = takeT Tryd.prog 119 (cs.drop 2) := fi_agg (by kernel_rfl) cs
@[go_sem] theorem T120bd (xs) : aBuild Tryd.prog 120 xs = (fillA (fun i => ([(0, 1), (1, 1), (2, 1)] : List (Nat × Nat))[i]?) [AV.str [], AV.int .i64 0, AV.nil] xs).map .agg := by kernel_rfl
@[go_sem] theorem T121s : tSize Tryd.prog 121 = some 3 := by kernel_rfl
@[go_sem] theorem T121a : tAgg Tryd.prog 121 = some true := by kernel_rfl
@[go_sem] theorem T121z : tZero Tryd.prog 121 = some [AV.str [], AV.int .i64 0, AV.nil] := by kernel_rfl
@[go_sem] theorem T121f0p (k g off) : fieldAddrA Tryd.prog 121 0 (.ptr k g off) = some (.ptr k g (off + 0)) := fa_ptr (s := 0) (ft := 9) (by kernel_rfl) (by kernel_rfl) k g off
@[go_sem] theorem T121f0q (cs) : fieldAddrA Tryd.prog 121 0 (.fptr cs) = some (.fptr (cs.drop 0)) := fa_fptr (s := 0) (ft := 9) (by kernel_rfl) (by kernel_rfl) cs
@[go_sem] theorem T121f0v (cs) : fieldA Tryd.prog 121 0 (.agg cs) = takeT Tryd.prog 9 (cs.drop 0) := fi_agg (by kernel_rfl) cs
@[go_sem] theorem T121f1p (k g off) : fieldAddrA Tryd.prog 121 1 (.ptr k g off) = some (.ptr k g (off + 1)) := fa_ptr (s := 0) (ft := 3) (by kernel_rfl) (by kernel_rfl) k g off
@[go_sem] theorem T121f1q (cs) : fieldAddrA Tryd.prog 121 1 (.fptr cs) = some (.fptr (cs.drop 1)) := fa_fptr (s := 0) (ft := 3) (by kernel_rfl) (by kernel_rfl) cs
@[go_sem] theorem T121f1v (cs) : fieldA Tryd.prog 121 1 (.agg cs) = takeT Tryd.prog 3 (cs.drop 1) := fi_agg (by kernel_rfl) cs
@[go_sem] theorem T121f2p (k g off) : fieldAddrA Tryd.prog 121 2 (.ptr k g off) = some (.ptr k g (off + 2)) := fa_ptr (s := 0) (ft := 119) (by kernel_rfl) (by kernel_rfl) k g off
@[go_sem] theorem T121f2q (cs) : fieldAddrA Tryd.prog 121 2 (.fptr cs) = some (.fptr (cs.drop 2)) := fa_fptr (s := 0) (ft := 119) (by kernel_rfl) (by kernel_rfl) cs
@[go_sem] theorem T121f2v (cs) : fieldA Tryd.prog 121 2 (.agg cs) = takeT Tryd.prog 119 (cs.drop 2) := fi_agg (by kernel_rfl) cs
@[go_sem] theorem T121bd (xs) : aBuild Tryd.prog 121 xs = (fillA (fun i => ([(0, 1), (1, 1), (2, 1)] : List (Nat × Nat))[i]?) [AV.str [], AV.int .i64 0, AV.nil] xs).map .agg := by kernel_rfl
@[go_sem] theorem T122s : tSize Tryd.prog 122 = some 1 := by kernel_rfl
@[go_sem] theorem T122a : tAgg Tryd.prog 122 = some false := by kernel_rfl
@[go_sem] theorem T122z : tZero Tryd.prog 122 = some [AV.nilp] := by kernel_rfl
@[go_sem] theorem T132s : tSize Tryd.prog 132 = some 1 := by kernel_rfl
@[go_sem] theorem T132a : tAgg Tryd.prog 132 = some false := by kernel_rfl
@[go_sem] theorem T132z : tZero Tryd.prog 132 = some [AV.nilp] := by kernel_rfl
@[go_sem] theorem T133s : tSize Tryd.prog 133 = some 5 := by kernel_rfl
@[go_sem] theorem T133a : tAgg Tryd.prog 133 = some true := by kernel_rfl
@[go_sem] theorem T133z : tZero Tryd.prog 133 = some [AV.int .i64 0, AV.int .i64 0, AV.int .i64 0, AV.nil, AV.nil] := by kernel_rfl
@[go_sem] theorem T133f0p (k g off) : fieldAddrA Tryd.prog 133 0 (.ptr k g off) = some (.ptr k g (off + 0)) := fa_ptr (s := 4) (ft := 82) (by kernel_rfl) (by kernel_rfl) k g off
@[go_sem] theorem T133f0q (cs) : fieldAddrA Tryd.prog 133 0 (.fptr cs) = some (.fptr (cs.drop 0)) := fa_fptr (s := 4) (ft := 82) (by kernel_rfl) (by kernel_rfl) cs
@[go_sem] theorem T133f0v (cs) : fieldA Tryd.prog 133 0 (.agg cs) = takeT Tryd.prog 82 (cs.drop 0) := fi_agg (by kernel_rfl) cs
@[go_sem] theorem T133bd (xs) : aBuild Tryd.prog 133 xs = (fillA (fun i => ([(0, 5)] : List (Nat × Nat))[i]?) [AV.int .i64 0, AV.int .i64 0, AV.int .i64 0, AV.nil, AV.nil] xs).map .agg := by kernel_rfl
@[go_sem] theorem T134s : tSize Tryd.prog 134 = some 5 := by kernel_rfl
@[go_sem] theorem T134a : tAgg Tryd.prog 134 = some true := by kernel_rfl
@[go_sem] theorem T134z : tZero Tryd.prog 134 = some [AV.int .i64 0, AV.int .i64 0, AV.int .i64 0, AV.nil, AV.nil] := by kernel_rfl
@[go_sem] theorem T134f0p (k g off) : fieldAddrA Tryd.prog 134 0 (.ptr k g off) = some (.ptr k g (off + 0)) := fa_ptr (s := 4) (ft := 82) (by kernel_rfl) (by kernel_rfl) k g off
@[go_sem] theorem T134f0q (cs) : fieldAddrA Tryd.prog 134 0 (.fptr cs) = some (.fptr (cs.drop 0)) := fa_fptr (s := 4) (ft := 82) (by kernel_rfl) (by kernel_rfl) cs
@[go_sem] theorem T134f0v (cs) : fieldA Tryd.prog 134 0 (.agg cs) = takeT Tryd.prog 82 (cs.drop 0) := fi_agg (by kernel_rfl) cs
@[go_sem] theorem T134bd (xs) : aBuild Tryd.prog 134 xs = (fillA (fun i => ([(0, 5)] : List (Nat × Nat))[i]?) [AV.int .i64 0, AV.int .i64 0, AV.int .i64 0, AV.nil, AV.nil] xs).map .agg := by kernel_rfl
@[go_sem] theorem T135s : tSize Tryd.prog 135 = some 2 := by kernel_rfl
@[go_sem] theorem T135a : tAgg Tryd.prog 135 = some true := by kernel_rfl
@[go_sem] theorem T135z : tZero Tryd.prog 135 = some [AV.int .i64 0, AV.int .i64 0] := by kernel_rfl
@[go_sem] theorem T135f0p (k g off) : fieldAddrA Tryd.prog 135 0 (.ptr k g off) = some (.ptr k g (off + 0)) := fa_ptr (s := 0) (ft := 3) (by kernel_rfl) (by kernel_rfl) k g off
@[go_sem] theorem T135f0q (cs) : fieldAddrA Tryd.prog 135 0 (.fptr cs) = some (.fptr (cs.drop 0)) := fa_fptr (s := 0) (ft := 3) (by kernel_rfl) (by kernel_rfl) cs
@[go_sem] theorem T135f0v (cs) : fieldA Tryd.prog 135 0 (.agg cs) = takeT Tryd.prog 3 (cs.drop 0) := fi_agg (by kernel_rfl) cs
@[go_sem] theorem T135f1p (k g off) : fieldAddrA Tryd.prog 135 1 (.ptr k g off) = some (.ptr k g (off + 1)) := fa_ptr (s := 0) (ft := 3) (by kernel_rfl) (by kernel_rfl) k g off
@[go_sem] theorem T135f1q (cs) : fieldAddrA Tryd.prog 135 1 (.fptr cs) = some (.fptr (cs.drop 1)) := fa_fptr (s := 0) (ft := 3) (by kernel_rfl) (by kernel_rfl) cs
@[go_sem] theorem T135f1v (cs) : fieldA Tryd.prog 135 1 (.agg cs) = takeT Tryd.prog 3 (cs.drop 1) := fi_agg (by kernel_rfl) cs
@[go_sem] theorem T135bd (xs) : aBuild Tryd.prog 135 xs = (fillA (fun i => ([(0, 1), (1, 1)] : List (Nat × Nat))[i]?) [AV.int .i64 0, AV.int .i64 0] xs).map .agg := by kernel_rfl
@[go_sem] theorem T135lf : eqLeaves Tryd.prog 135 = some [Leaf.int, Leaf.int] := by kernel_rfl
@[go_sem] theorem T136s : tSize Tryd.prog 136 = some 2 := by kernel_rfl
@[go_sem] theorem T136a : tAgg Tryd.prog 136 = some true := by kernel_rfl
@[go_sem] theorem T136z : tZero Tryd.prog 136 = some [AV.int .i64 0, AV.int .i64 0] := by kernel_rfl
@[go_sem] theorem T136f0p (k g off) : fieldAddrA Tryd.prog 136 0 (.ptr k g off) = some (.ptr k g (off + 0)) := fa_ptr (s := 0) (ft := 3) (by kernel_rfl) (by kernel_rfl) k g off
@[go_sem] theorem T136f0q (cs) : fieldAddrA Tryd.prog 136 0 (.fptr cs) = some (.fptr (cs.drop 0)) := fa_fptr (s := 0) (ft := 3) (by kernel_rfl) (by kernel_rfl) cs
@[go_sem] theorem T136f0v (cs) : fieldA Tryd.prog 136 0 (.agg cs) = takeT Tryd.prog 3 (cs.drop 0) := fi_agg (by kernel_rfl) cs
@[go_sem] theorem T136f1p (k g off) : fieldAddrA Tryd.prog 136 1 (.ptr k g off) = some (.ptr k g (off + 1)) := fa_ptr (s := 0) (ft := 3) (by kernel_rfl) (by kernel_rfl) k g off
@[go_sem] theorem T136f1q (cs) : fieldAddrA Tryd.prog 136 1 (.fptr cs) = some (.fptr (cs.drop 1)) := fa_fptr (s := 0) (ft := 3) (by kernel_rfl) (by kernel_rfl) cs
@[go_sem] theorem T136f1v (cs) : fieldA Tryd.prog 136 1 (.agg cs) = takeT Tryd.prog 3 (cs.drop 1) := fi_agg (by kernel_rfl) cs
@[go_sem] theorem T136bd (xs) : aBuild Tryd.prog 136 xs = (fillA (fun i => ([(0, 1), (1, 1)] : List (Nat × Nat))[i]?) [AV.int .i64 0, AV.int .i64 0] xs).map .agg := by kernel_rfl
@[go_sem] theorem T136lf : eqLeaves Tryd.prog 136 = some [Leaf.int, Leaf.int] := by kernel_rfl
@[go_sem] theorem T138s : tSize Tryd.prog 138 = some 1 := by kernel_rfl
@[go_sem] theorem T138a : tAgg Tryd.prog 138 = some false := by kernel_rfl
@[go_sem] theorem T138z : tZero Tryd.prog 138 = some [AV.nilp] := by kernel_rfl
@[go_sem] theorem T139s : tSize Tryd.prog 139 = some 1 := by kernel_rfl
@[go_sem] theorem T139a : tAgg Tryd.prog 139 = some false := by kernel_rfl
@[go_sem] theorem T139z : tZero Tryd.prog 139 = some [AV.nil] := by kernel_rfl
@[go_sem] theorem T139ln0 (o) : aLen Tryd.prog o 139 .nil = some (.int .i64 0) := ln_nil (e := 79) (by kernel_rfl) o
@[go_sem] theorem T139ln1 (o n cs) : aLen Tryd.prog o 139 (.sl n cs) = some (.int .i64 n) := ln_sl (e := 79) (by kernel_rfl) o n cs
@[go_sem] theorem T139ln2 (o k g off n) : aLen Tryd.prog o 139 (.ref k g off n) = some (.int .i64 n) := ln_ref (e := 79) (by kernel_rfl) o k g off n
@[go_sem] theorem T139ix1 (n cs i) : aIndexAddr Tryd.prog 139 (.sl n cs) i = if 0 ≤ i ∧ i < (n : Int) then some (.fptr (cs.drop (i.toNat * 1))) else none := ixs_sl (s := 1) (by kernel_rfl) n cs i
@[go_sem] theorem T139ix2 (k g off n i) : aIndexAddr Tryd.prog 139 (.ref k g off n) i = if 0 ≤ i ∧ i < (n : Int) then some (.ptr k g (off + i.toNat * 1)) else none := ixs_ref (s := 1) (by kernel_rfl) k g off n i
@[go_sem] theorem T139sl1 (n cs lo hi) : aSlice Tryd.prog 139 (.sl n cs) lo hi = if 0 ≤ lo.getD 0 ∧ lo.getD 0 ≤ hi.getD n ∧ hi.getD n ≤ n then some (.sl ((hi.getD n).toNat - (lo.getD 0).toNat) ((cs.take ((hi.getD n).toNat * 1)).drop ((lo.getD 0).toNat * 1))) else none := sl_sl (s := 1) (by kernel_rfl) n cs lo hi
@[go_sem] theorem T139sl2 (k g off n lo hi) : aSlice Tryd.prog 139 (.ref k g off n) lo hi = if 0 ≤ lo.getD 0 ∧ lo.getD 0 ≤ hi.getD n ∧ hi.getD n ≤ n then some (.ref k g (off + (lo.getD 0).toNat * 1) ((hi.getD n).toNat - (lo.getD 0).toNat)) else none := sl_ref (s := 0) (by kernel_rfl) k g off n lo hi
@[go_sem] theorem T139cp (k g off n x o nx) : aCopy Tryd.prog 139 (.ref k g off n) x ⟨o, nx⟩ = (srcOf o x).bind fun q => (rowIf (o k) g).bind (copyR k off n 1 q.1 q.2 o nx) := cp_ref (by kernel_rfl) k g off n x o nx
@[go_sem] theorem T139ms (tg l c o nx) : aMakeSlice Tryd.prog tg 139 l c ⟨o, nx⟩ = if 0 ≤ l ∧ l ≤ c ∧ c * 24 ≤ maxB ∧ c ≤ maxB then some (.ref tg tg 0 l.toNat, ⟨upd o tg (.row ⟨79, 1, tg, false, true, rep [AV.nil] l.toNat⟩), nx⟩) else none := ms_eq (e := 79) (s := 0) (b := 24) (z := [AV.nil]) (by kernel_rfl) (by kernel_rfl) (by kernel_rfl) (by kernel_rfl) rfl tg l c o nx
@[go_sem] theorem T139bs (tg n ps o nx) : aBuildSlice Tryd.prog tg 139 n ps ⟨o, nx⟩ = if n * 1 ≤ 16777216 then (fillA (fun i => some (i * 1, 1)) (rep [AV.nil] n) ps).map (fun cs => (.ref tg tg 0 n, ⟨upd o tg (.row ⟨79, 1, tg, false, true, cs⟩), nx⟩)) else none := bs_eq (e := 79) (s := 0) (z := [AV.nil]) (by kernel_rfl) (by kernel_rfl) (by kernel_rfl) rfl tg n ps o nx
@[go_sem] theorem T139ap (tg x y o nx) : aAppend Tryd.prog tg 139 139 x y ⟨o, nx⟩ = (srcOf o y).bind fun q => appW tg 79 1 24 x q.1 q.2 o nx := ap_eq (e := 79) (s := 0) (b := 23) (z := [AV.nil]) (by kernel_rfl) (by kernel_rfl) (by kernel_rfl) (by kernel_rfl) rfl (by kernel_rfl) tg x y o nx
@[go_sem] theorem T140s : tSize Tryd.prog 140 = some 1 := by kernel_rfl
@[go_sem] theorem T140a : tAgg Tryd.prog 140 = some false := by kernel_rfl
@[go_sem] theorem T140z : tZero Tryd.prog 140 = some [AV.nilmp] := by kernel_rfl
@[go_sem] theorem T140lk (m s ok o nx) : aLookup Tryd.prog 140 (.mp m) (.str s) ok ⟨o, nx⟩ = (mapIf (o m)).bind fun es => (findA (.str s) es).map (lkV ok (AV.int .i64 0)) := lk_eq (kt := 9) (et := 3) (z := (AV.int .i64 0)) (k := .str s) (by kernel_rfl) (by kernel_rfl) (by kernel_rfl) m ok o nx
@[go_sem] theorem T140mu (m s v o nx) : aMapUpdate Tryd.prog 140 (.mp m) (.str s) v ⟨o, nx⟩ = (mapIf (o m)).bind (updM m (.str s) v o nx) := mu_eq (kt := 9) (et := 3) (k := .str s) (by kernel_rfl) (by kernel_rfl) m v o nx
@[go_sem] theorem T140lm (o k) : aLen Tryd.prog o 140 (.mp k) = (mapIf (o k)).map fun es => .int .i64 es.length := lm_eq (kt := 9) (et := 3) (by kernel_rfl) o k
@[go_sem] theorem T141s : tSize Tryd.prog 141 = some 1 := by kernel_rfl
@[go_sem] theorem T141a : tAgg Tryd.prog 141 = some false := by kernel_rfl
@[go_sem] theorem T141z : tZero Tryd.prog 141 = some [AV.nil] := by kernel_rfl
@[go_sem] theorem T141ln0 (o) : aLen Tryd.prog o 141 .nil = some (.int .i64 0) := ln_nil (e := 22) (by kernel_rfl) o
@[go_sem] theorem T141ln1 (o n cs) : aLen Tryd.prog o 141 (.sl n cs) = some (.int .i64 n) := ln_sl (e := 22) (by kernel_rfl) o n cs
@[go_sem] theorem T141ln2 (o k g off n) : aLen Tryd.prog o 141 (.ref k g off n) = some (.int .i64 n) := ln_ref (e := 22) (by kernel_rfl) o k g off n
@[go_sem] theorem T141ix1 (n cs i) : aIndexAddr Tryd.prog 141 (.sl n cs) i = if 0 ≤ i ∧ i < (n : Int) then some (.fptr (cs.drop (i.toNat * 1))) else none := ixs_sl (s := 1) (by kernel_rfl) n cs i
@[go_sem] theorem T141ix2 (k g off n i) : aIndexAddr Tryd.prog 141 (.ref k g off n) i = if 0 ≤ i ∧ i < (n : Int) then some (.ptr k g (off + i.toNat * 1)) else none := ixs_ref (s := 1) (by kernel_rfl) k g off n i
@[go_sem] theorem T141sl1 (n cs lo hi) : aSlice Tryd.prog 141 (.sl n cs) lo hi = if 0 ≤ lo.getD 0 ∧ lo.getD 0 ≤ hi.getD n ∧ hi.getD n ≤ n then some (.sl ((hi.getD n).toNat - (lo.getD 0).toNat) ((cs.take ((hi.getD n).toNat * 1)).drop ((lo.getD 0).toNat * 1))) else none := sl_sl (s := 1) (by kernel_rfl) n cs lo hi
@[go_sem] theorem T141sl2 (k g off n lo hi) : aSlice Tryd.prog 141 (.ref k g off n) lo hi = if 0 ≤ lo.getD 0 ∧ lo.getD 0 ≤ hi.getD n ∧ hi.getD n ≤ n then some (.ref k g (off + (lo.getD 0).toNat * 1) ((hi.getD n).toNat - (lo.getD 0).toNat)) else none := sl_ref (s := 0) (by kernel_rfl) k g off n lo hi
@[go_sem] theorem T141cp (k g off n x o nx) : aCopy Tryd.prog 141 (.ref k g off n) x ⟨o, nx⟩ = (srcOf o x).bind fun q => (rowIf (o k) g).bind (copyR k off n 1 q.1 q.2 o nx) := cp_ref (by kernel_rfl) k g off n x o nx
@[go_sem] theorem T141ms (tg l c o nx) : aMakeSlice Tryd.prog tg 141 l c ⟨o, nx⟩ = if 0 ≤ l ∧ l ≤ c ∧ c * 24 ≤ maxB ∧ c ≤ maxB then some (.ref tg tg 0 l.toNat, ⟨upd o tg (.row ⟨22, 1, tg, false, true, rep [AV.nil] l.toNat⟩), nx⟩) else none := ms_eq (e := 22) (s := 0) (b := 24) (z := [AV.nil]) (by kernel_rfl) (by kernel_rfl) (by kernel_rfl) (by kernel_rfl) rfl tg l c o nx
@[go_sem] theorem T141bs (tg n ps o nx) : aBuildSlice Tryd.prog tg 141 n ps ⟨o, nx⟩ = if n * 1 ≤ 16777216 then (fillA (fun i => some (i * 1, 1)) (rep [AV.nil] n) ps).map (fun cs => (.ref tg tg 0 n, ⟨upd o tg (.row ⟨22, 1, tg, false, true, cs⟩), nx⟩)) else none := bs_eq (e := 22) (s := 0) (z := [AV.nil]) (by kernel_rfl) (by kernel_rfl) (by kernel_rfl) rfl tg n ps o nx
@[go_sem] theorem T141ap (tg x y o nx) : aAppend Tryd.prog tg 141 141 x y ⟨o, nx⟩ = (srcOf o y).bind fun q => appW tg 22 1 24 x q.1 q.2 o nx := ap_eq (e := 22) (s := 0) (b := 23) (z := [AV.nil]) (by kernel_rfl) (by kernel_rfl) (by kernel_rfl) (by kernel_rfl) rfl (by kernel_rfl) tg x y o nx
@[go_sem] theorem T142s : tSize Tryd.prog 142 = some 8 := by kernel_rfl
@[go_sem] theorem T142a : tAgg Tryd.prog 142 = some true := by kernel_rfl
@[go_sem] theorem T142z : tZero Tryd.prog 142 = some [AV.int .i64 0, AV.int .i64 0, AV.int .i64 0, AV.nil, AV.nil, AV.nil, AV.nilmp, AV.nil] := by kernel_rfl
@[go_sem] theorem T142f0p (k g off) : fieldAddrA Tryd.prog 142 0 (.ptr k g off) = some (.ptr k g (off + 0)) := fa_ptr (s := 4) (ft := 82) (by kernel_rfl) (by kernel_rfl) k g off
@[go_sem] theorem T142f0q (cs) : fieldAddrA Tryd.prog 142 0 (.fptr cs) = some (.fptr (cs.drop 0)) := fa_fptr (s := 4) (ft := 82) (by kernel_rfl) (by kernel_rfl) cs
@[go_sem] theorem T142f0v (cs) : fieldA Tryd.prog 142 0 (.agg cs) = takeT Tryd.prog 82 (cs.drop 0) := fi_agg (by kernel_rfl) cs
@[go_sem] theorem T142f1p (k g off) : fieldAddrA Tryd.prog 142 1 (.ptr k g off) = some (.ptr k g (off + 5)) := fa_ptr (s := 0) (ft := 139) (by kernel_rfl) (by kernel_rfl) k g off
@[go_sem] theorem T142f1q (cs) : fieldAddrA Tryd.prog 142 1 (.fptr cs) = some (.fptr (cs.drop 5)) := fa_fptr (s := 0) (ft := 139) (by kernel_rfl) (by kernel_rfl) cs
@[go_sem] theorem T142f1v (cs) : fieldA Tryd.prog 142 1 (.agg cs) = takeT Tryd.prog 139 (cs.drop 5) := fi_agg (by kernel_rfl) cs
@[go_sem] theorem T142f2p (k g off) : fieldAddrA Tryd.prog 142 2 (.ptr k g off) = some (.ptr k g (off + 6)) := fa_ptr (s := 0) (ft := 140) (by kernel_rfl) (by kernel_rfl) k g off
@[go_sem] theorem T142f2q (cs) : fieldAddrA Tryd.prog 142 2 (.fptr cs) = some (.fptr (cs.drop 6)) := fa_fptr (s := 0) (ft := 140) (by kernel_rfl) (by kernel_rfl) cs
@[go_sem] theorem T142f2v (cs) : fieldA Tryd.prog 142 2 (.agg cs) = takeT Tryd.prog 140 (cs.drop 6) := fi_agg (by kernel_rfl) cs
@[go_sem] theorem T142f3p (k g off) : fieldAddrA Tryd.prog 142 3 (.ptr k g off) = some (.ptr k g (off + 7)) := fa_ptr (s := 0) (ft := 141) (by kernel_rfl) (by kernel_rfl) k g off
@[go_sem] theorem T142f3q (cs) : fieldAddrA Tryd.prog 142 3 (.fptr cs) = some (.fptr (cs.drop 7)) := fa_fptr (s := 0) (ft := 141) (by kernel_rfl) (by kernel_rfl) cs
@[go_sem] theorem T142f3v (cs) : fieldA Tryd.prog 142 3 (.agg cs) = takeT Tryd.prog 141 (cs.drop 7) := fi_agg (by kernel_rfl) cs
@[go_sem] theorem T142bd (xs) : aBuild Tryd.prog 142 xs = (fillA (fun i => ([(0, 5), (5, 1), (6, 1), (7, 1)] : List (Nat × Nat))[i]?) [AV.int .i64 0, AV.int .i64 0, AV.int .i64 0, AV.nil, AV.nil, AV.nil, AV.nilmp, AV.nil] xs).map .agg := by kernel_rfl
@[go_sem] theorem T143s : tSize Tryd.prog 143 = some 8 := by kernel_rfl
@[go_sem] theorem T143a : tAgg Tryd.prog 143 = some true := by kernel_rfl
@[go_sem] theorem T143z : tZero Tryd.prog 143 = some [AV.int .i64 0, AV.int .i64 0, AV.int .i64 0, AV.nil, AV.nil, AV.nil, AV.nilmp, AV.nil] := by kernel_rfl
@[go_sem] theorem T143f0p (k g off) : fieldAddrA Tryd.prog 143 0 (.ptr k g off) = some (.ptr k g (off + 0)) := fa_ptr (s := 4) (ft := 82) (by kernel_rfl) (by kernel_rfl) k g off
@[go_sem] theorem T143f0q (cs) : fieldAddrA Tryd.prog 143 0 (.fptr cs) = some (.fptr (cs.drop 0)) := fa_fptr (s := 4) (ft := 82) (by kernel_rfl) (by kernel_rfl) cs
@[go_sem] theorem T143f0v (cs) : fieldA Tryd.prog 143 0 (.agg cs) = takeT Tryd.prog 82 (cs.drop 0) := fi_agg (by kernel_rfl) cs
@[go_sem] theorem T143f1p (k g off) : fieldAddrA Tryd.prog 143 1 (.ptr k g off) = some (.ptr k g (off + 5)) := fa_ptr (s := 0) (ft := 139) (by kernel_rfl) (by kernel_rfl) k g off
@[go_sem] theorem T143f1q (cs) : fieldAddrA Tryd.prog 143 1 (.fptr cs) = some (.fptr (cs.drop 5)) := fa_fptr (s := 0) (ft := 139) (by kernel_rfl) (by kernel_rfl) cs
@[go_sem] theorem T143f1v (cs) : fieldA Tryd.prog 143 1 (.agg cs) = takeT Tryd.prog 139 (cs.drop 5) := fi_agg (by kernel_rfl) cs
@[go_sem] theorem T143f2p (k g off) : fieldAddrA Tryd.prog 143 2 (.ptr k g off) = some (.ptr k g (off + 6)) := fa_ptr (s := 0) (ft := 140) (by kernel_rfl) (by kernel_rfl) k g off
@[go_sem] theorem T143f2q (cs) : fieldAddrA Tryd.prog 143 2 (.fptr cs) = some (.fptr (cs.drop 6)) := fa_fptr (s := 0) (ft := 140) (by kernel_rfl) (by kernel_rfl) cs
@[go_sem] theorem T143f2v (cs) : fieldA Tryd.prog 143 2 (.agg cs) = takeT Tryd.prog 140 (cs.drop 6) := fi_agg (by kernel_rfl) cs
@[go_sem] theorem T143f3p (k g off) : fieldAddrA Tryd.prog 143 3 (.ptr k g off) = some (.ptr k g (off + 7)) := fa_ptr (s := 0) (ft := 141) (by kernel_rfl) (by kernel_rfl) k g off
@[go_sem] theorem T143f3q (cs) : fieldAddrA Tryd.prog 143 3 (.fptr cs) = some (.fptr (cs.drop 7)) := fa_fptr (s := 0) (ft := 141) (by kernel_rfl) (by kernel_rfl) cs
@[go_sem] theorem T143f3v (cs) : fieldA Tryd.prog 143 3 (.agg cs) = takeT Tryd.prog 141 (cs.drop 7) := fi_agg (by kernel_rfl) cs
@[go_sem] theorem T143bd (xs) : aBuild Tryd.prog 143 xs = (fillA (fun i => ([(0, 5), (5, 1), (6, 1), (7, 1)] : List (Nat × Nat))[i]?) [AV.int .i64 0, AV.int .i64 0, AV.int .i64 0, AV.nil, AV.nil, AV.nil, AV.nilmp, AV.nil] xs).map .agg := by kernel_rfl
@[go_sem] theorem T144s : tSize Tryd.prog 144 = some 3 := by kernel_rfl
@[go_sem] theorem T144a : tAgg Tryd.prog 144 = some true := by kernel_rfl
@[go_sem] theorem T144z : tZero Tryd.prog 144 = some [AV.int .i64 0, AV.int .i64 0, AV.int .i64 0] := by kernel_rfl
@[go_sem] theorem T144f0p (k g off) : fieldAddrA Tryd.prog 144 0 (.ptr k g off) = some (.ptr k g (off + 0)) := fa_ptr (s := 0) (ft := 3) (by kernel_rfl) (by kernel_rfl) k g off
@[go_sem] theorem T144f0q (cs) : fieldAddrA Tryd.prog 144 0 (.fptr cs) = some (.fptr (cs.drop 0)) := fa_fptr (s := 0) (ft := 3) (by kernel_rfl) (by kernel_rfl) cs
@[go_sem] theorem T144f0v (cs) : fieldA Tryd.prog 144 0 (.agg cs) = takeT Tryd.prog 3 (cs.drop 0) := fi_agg (by kernel_rfl) cs
@[go_sem] theorem T144f1p (k g off) : fieldAddrA Tryd.prog 144 1 (.ptr k g off) = some (.ptr k g (off + 1)) := fa_ptr (s := 0) (ft := 3) (by kernel_rfl) (by kernel_rfl) k g off
@[go_sem] theorem T144f1q (cs) : fieldAddrA Tryd.prog 144 1 (.fptr cs) = some (.fptr (cs.drop 1)) := fa_fptr (s := 0) (ft := 3) (by kernel_rfl) (by kernel_rfl) cs
@[go_sem] theorem T144f1v (cs) : fieldA Tryd.prog 144 1 (.agg cs) = takeT Tryd.prog 3 (cs.drop 1) := fi_agg (by kernel_rfl) cs
@[go_sem] theorem T144f2p (k g off) : fieldAddrA Tryd.prog 144 2 (.ptr k g off) = some (.ptr k g (off + 2)) := fa_ptr (s := 0) (ft := 3) (by kernel_rfl) (by kernel_rfl) k g off
@[go_sem] theorem T144f2q (cs) : fieldAddrA Tryd.prog 144 2 (.fptr cs) = some (.fptr (cs.drop 2)) := fa_fptr (s := 0) (ft := 3) (by kernel_rfl) (by kernel_rfl) cs
@[go_sem] theorem T144f2v (cs) : fieldA Tryd.prog 144 2 (.agg cs) = takeT Tryd.prog 3 (cs.drop 2) := fi_agg (by kernel_rfl) cs
@[go_sem] theorem T144bd (xs) : aBuild Tryd.prog 144 xs = (fillA (fun i => ([(0, 1), (1, 1), (2, 1)] : List (Nat × Nat))[i]?) [AV.int .i64 0, AV.int .i64 0, AV.int .i64 0] xs).map .agg := by kernel_rfl
@[go_sem] theorem T144lf : eqLeaves Tryd.prog 144 = some [Leaf.int, Leaf.int, Leaf.int] := by kernel_rfl
@[go_sem] theorem T145s : tSize Tryd.prog 145 = some 3 := by kernel_rfl
@[go_sem] theorem T145a : tAgg Tryd.prog 145 = some true := by kernel_rfl
@[go_sem] theorem T145z : tZero Tryd.prog 145 = some [AV.int .i64 0, AV.int .i64 0, AV.int .i64 0] := by kernel_rfl
@[go_sem] theorem T145f0p (k g off) : fieldAddrA Tryd.prog 145 0 (.ptr k g off) = some (.ptr k g (off + 0)) := fa_ptr (s := 0) (ft := 3) (by kernel_rfl) (by kernel_rfl) k g off
@[go_sem] theorem T145f0q (cs) : fieldAddrA Tryd.prog 145 0 (.fptr cs) = some (.fptr (cs.drop 0)) := fa_fptr (s := 0) (ft := 3) (by kernel_rfl) (by kernel_rfl) cs
@[go_sem] theorem T145f0v (cs) : fieldA Tryd.prog 145 0 (.agg cs) = takeT Tryd.prog 3 (cs.drop 0) := fi_agg (by kernel_rfl) cs
@[go_sem] theorem T145f1p (k g off) : fieldAddrA Tryd.prog 145 1 (.ptr k g off) = some (.ptr k g (off + 1)) := fa_ptr (s := 0) (ft := 3) (by kernel_rfl) (by kernel_rfl) k g off
@[go_sem] theorem T145f1q (cs) : fieldAddrA Tryd.prog 145 1 (.fptr cs) = some (.fptr (cs.drop 1)) := fa_fptr (s := 0) (ft := 3) (by kernel_rfl) (by kernel_rfl) cs
@[go_sem] theorem T145f1v (cs) : fieldA Tryd.prog 145 1 (.agg cs) = takeT Tryd.prog 3 (cs.drop 1) := fi_agg (by kernel_rfl) cs
@[go_sem] theorem T145f2p (k g off) : fieldAddrA Tryd.prog 145 2 (.ptr k g off) = some (.ptr k g (off + 2)) := fa_ptr (s := 0) (ft := 3) (by kernel_rfl) (by kernel_rfl) k g off
@[go_sem] theorem T145f2q (cs) : fieldAddrA Tryd.prog 145 2 (.fptr cs) = some (.fptr (cs.drop 2)) := fa_fptr (s := 0) (ft := 3) (by kernel_rfl) (by kernel_rfl) cs
@[go_sem] theorem T145f2v (cs) : fieldA Tryd.prog 145 2 (.agg cs) = takeT Tryd.prog 3 (cs.drop 2) := fi_agg (by kernel_rfl) cs
@[go_sem] theorem T145bd (xs) : aBuild Tryd.prog 145 xs = (fillA (fun i => ([(0, 1), (1, 1), (2, 1)] : List (Nat × Nat))[i]?) [AV.int .i64 0, AV.int .i64 0, AV.int .i64 0] xs).map .agg := by kernel_rfl
@[go_sem] theorem T145lf : eqLeaves Tryd.prog 145 = some [Leaf.int, Leaf.int, Leaf.int] := by kernel_rfl
@[go_sem] theorem T157s : tSize Tryd.prog 157 = some 1 := by kernel_rfl
@[go_sem] theorem T157a : tAgg Tryd.prog 157 = some false := by kernel_rfl
@[go_sem] theorem T157z : tZero Tryd.prog 157 = some [AV.nilp] := by kernel_rfl
@[go_sem] theorem T159s : tSize Tryd.prog 159 = some 1 := by kernel_rfl
@[go_sem] theorem T159a : tAgg Tryd.prog 159 = some false := by kernel_rfl
@[go_sem] theorem T159z : tZero Tryd.prog 159 = some [AV.nil] := by kernel_rfl
@[go_sem] theorem T159ln0 (o) : aLen Tryd.prog o 159 .nil = some (.int .i64 0) := ln_nil (e := 136) (by kernel_rfl) o
@[go_sem] theorem T159ln1 (o n cs) : aLen Tryd.prog o 159 (.sl n cs) = some (.int .i64 n) := ln_sl (e := 136) (by kernel_rfl) o n cs
@[go_sem] theorem T159ln2 (o k g off n) : aLen Tryd.prog o 159 (.ref k g off n) = some (.int .i64 n) := ln_ref (e := 136) (by kernel_rfl) o k g off n
@[go_sem] theorem T159ix1 (n cs i) : aIndexAddr Tryd.prog 159 (.sl n cs) i = if 0 ≤ i ∧ i < (n : Int) then some (.fptr (cs.drop (i.toNat * 2))) else none := ixs_sl (s := 2) (by kernel_rfl) n cs i
@[go_sem] theorem T159ix2 (k g off n i) : aIndexAddr Tryd.prog 159 (.ref k g off n) i = if 0 ≤ i ∧ i < (n : Int) then some (.ptr k g (off + i.toNat * 2)) else none := ixs_ref (s := 2) (by kernel_rfl) k g off n i
@[go_sem] theorem T159sl1 (n cs lo hi) : aSlice Tryd.prog 159 (.sl n cs) lo hi = if 0 ≤ lo.getD 0 ∧ lo.getD 0 ≤ hi.getD n ∧ hi.getD n ≤ n then some (.sl ((hi.getD n).toNat - (lo.getD 0).toNat) ((cs.take ((hi.getD n).toNat * 2)).drop ((lo.getD 0).toNat * 2))) else none := sl_sl (s := 2) (by kernel_rfl) n cs lo hi
@[go_sem] theorem T159sl2 (k g off n lo hi) : aSlice Tryd.prog 159 (.ref k g off n) lo hi = if 0 ≤ lo.getD 0 ∧ lo.getD 0 ≤ hi.getD n ∧ hi.getD n ≤ n then some (.ref k g (off + (lo.getD 0).toNat * 2) ((hi.getD n).toNat - (lo.getD 0).toNat)) else none := sl_ref (s := 1) (by kernel_rfl) k g off n lo hi
@[go_sem] theorem T159cp (k g off n x o nx) : aCopy Tryd.prog 159 (.ref k g off n) x ⟨o, nx⟩ = (srcOf o x).bind fun q => (rowIf (o k) g).bind (copyR k off n 2 q.1 q.2 o nx) := cp_ref (by kernel_rfl) k g off n x o nx
@[go_sem] theorem T159ms (tg l c o nx) : aMakeSlice Tryd.prog tg 159 l c ⟨o, nx⟩ = if 0 ≤ l ∧ l ≤ c ∧ c * 16 ≤ maxB ∧ c ≤ maxB then some (.ref tg tg 0 l.toNat, ⟨upd o tg (.row ⟨136, 2, tg, false, true, rep [AV.int .i64 0, AV.int .i64 0] l.toNat⟩), nx⟩) else none := ms_eq (e := 136) (s := 1) (b := 16) (z := [AV.int .i64 0, AV.int .i64 0]) (by kernel_rfl) (by kernel_rfl) (by kernel_rfl) (by kernel_rfl) rfl tg l c o nx
@[go_sem] theorem T159bs (tg n ps o nx) : aBuildSlice Tryd.prog tg 159 n ps ⟨o, nx⟩ = if n * 2 ≤ 16777216 then (fillA (fun i => some (i * 2, 2)) (rep [AV.int .i64 0, AV.int .i64 0] n) ps).map (fun cs => (.ref tg tg 0 n, ⟨upd o tg (.row ⟨136, 2, tg, false, true, cs⟩), nx⟩)) else none := bs_eq (e := 136) (s := 1) (z := [AV.int .i64 0, AV.int .i64 0]) (by kernel_rfl) (by kernel_rfl) (by kernel_rfl) rfl tg n ps o nx
@[go_sem] theorem T159ap (tg x y o nx) : aAppend Tryd.prog tg 159 159 x y ⟨o, nx⟩ = (srcOf o y).bind fun q => appW tg 136 2 16 x q.1 q.2 o nx := ap_eq (e := 136) (s := 1) (b := 15) (z := [AV.int .i64 0, AV.int .i64 0]) (by kernel_rfl) (by kernel_rfl) (by kernel_rfl) (by kernel_rfl) rfl (by kernel_rfl) tg x y o nx
@[go_sem] theorem T164s : tSize Tryd.prog 164 = some 2 := by kernel_rfl
@[go_sem] theorem T164a : tAgg Tryd.prog 164 = some true := by kernel_rfl
@[go_sem] theorem T164z : tZero Tryd.prog 164 = some [AV.int .i64 0, AV.nil] := by kernel_rfl
@[go_sem] theorem T164f0p (k g off) : fieldAddrA Tryd.prog 164 0 (.ptr k g off) = some (.ptr k g (off + 0)) := fa_ptr (s := 0) (ft := 3) (by kernel_rfl) (by kernel_rfl) k g off
@[go_sem] theorem T164f0q (cs) : fieldAddrA Tryd.prog 164 0 (.fptr cs) = some (.fptr (cs.drop 0)) := fa_fptr (s := 0) (ft := 3) (by kernel_rfl) (by kernel_rfl) cs
@[go_sem] theorem T164f0v (cs) : fieldA Tryd.prog 164 0 (.agg cs) = takeT Tryd.prog 3 (cs.drop 0) := fi_agg (by kernel_rfl) cs
@[go_sem] theorem T164f1p (k g off) : fieldAddrA Tryd.prog 164 1 (.ptr k g off) = some (.ptr k g (off + 1)) := fa_ptr (s := 0) (ft := 141) (by kernel_rfl) (by kernel_rfl) k g off
@[go_sem] theorem T164f1q (cs) : fieldAddrA Tryd.prog 164 1 (.fptr cs) = some (.fptr (cs.drop 1)) := fa_fptr (s := 0) (ft := 141) (by kernel_rfl) (by kernel_rfl) cs
@[go_sem] theorem T164f1v (cs) : fieldA Tryd.prog 164 1 (.agg cs) = takeT Tryd.prog 141 (cs.drop 1) := fi_agg (by kernel_rfl) cs
@[go_sem] theorem T164bd (xs) : aBuild Tryd.prog 164 xs = (fillA (fun i => ([(0, 1), (1, 1)] : List (Nat × Nat))[i]?) [AV.int .i64 0, AV.nil] xs).map .agg := by kernel_rfl
@[go_sem] theorem T165s : tSize Tryd.prog 165 = some 2 := by kernel_rfl
@[go_sem] theorem T165a : tAgg Tryd.prog 165 = some true := by kernel_rfl
@[go_sem] theorem T165z : tZero Tryd.prog 165 = some [AV.int .i64 0, AV.nil] := by kernel_rfl
@[go_sem] theorem T165f0p (k g off) : fieldAddrA Tryd.prog 165 0 (.ptr k g off) = some (.ptr k g (off + 0)) := fa_ptr (s := 0) (ft := 3) (by kernel_rfl) (by kernel_rfl) k g off
@[go_sem] theorem T165f0q (cs) : fieldAddrA Tryd.prog 165 0 (.fptr cs) = some (.fptr (cs.drop 0)) := fa_fptr (s := 0) (ft := 3) (by kernel_rfl) (by kernel_rfl) cs
@[go_sem] theorem T165f0v (cs) : fieldA Tryd.prog 165 0 (.agg cs) = takeT Tryd.prog 3 (cs.drop 0) := fi_agg (by kernel_rfl) cs
@[go_sem] theorem T165f1p (k g off) : fieldAddrA Tryd.prog 165 1 (.ptr k g off) = some (.ptr k g (off + 1)) := fa_ptr (s := 0) (ft := 141) (by kernel_rfl) (by kernel_rfl) k g off
@[go_sem] theorem T165f1q (cs) : fieldAddrA Tryd.prog 165 1 (.fptr cs) = some (.fptr (cs.drop 1)) := fa_fptr (s := 0) (ft := 141) (by kernel_rfl) (by kernel_rfl) cs
@[go_sem] theorem T165f1v (cs) : fieldA Tryd.prog 165 1 (.agg cs) = takeT Tryd.prog 141 (cs.drop 1) := fi_agg (by kernel_rfl) cs
@[go_sem] theorem T165bd (xs) : aBuild Tryd.prog 165 xs = (fillA (fun i => ([(0, 1), (1, 1)] : List (Nat × Nat))[i]?) [AV.int .i64 0, AV.nil] xs).map .agg := by kernel_rfl
@[go_sem] theorem T168s : tSize Tryd.prog 168 = some 24 := by kernel_rfl
@[go_sem] theorem T168a : tAgg Tryd.prog 168 = some true := by kernel_rfl
@[go_sem] theorem T168z : tZero Tryd.prog 168 = some [AV.int .u8 0, AV.int .u8 0, AV.int .u8 0, AV.int .u8 0, AV.int .u8 0, AV.int .u8 0, AV.int .u8 0, AV.int .u8 0, AV.int .u8 0, AV.int .u8 0, AV.int .u8 0, AV.int .u8 0, AV.int .u8 0, AV.int .u8 0, AV.int .u8 0, AV.int .u8 0, AV.int .u8 0, AV.int .u8 0, AV.int .u8 0, AV.int .u8 0, AV.int .u8 0, AV.int .u8 0, AV.int .u8 0, AV.int .u8 0] := by kernel_rfl
@[go_sem] theorem T168ln (o x) : aLen Tryd.prog o 168 x = some (.int .i64 24) := ln_arr (e := 5) (by kernel_rfl) o x
@[go_sem] theorem T168ix1 (cs i) : aIndexAddr Tryd.prog 168 (.fptr cs) i = if 0 ≤ i ∧ i < 24 then some (.fptr (cs.drop (i.toNat * 1))) else none := ixa_fptr (n := 24) (e := 5) (s := 1) (by kernel_rfl) (by kernel_rfl) cs i
@[go_sem] theorem T168ix2 (k g off i) : aIndexAddr Tryd.prog 168 (.ptr k g off) i = if 0 ≤ i ∧ i < 24 then some (.ptr k g (off + i.toNat * 1)) else none := ixa_ptr (n := 24) (e := 5) (s := 1) (by kernel_rfl) (by kernel_rfl) k g off i
@[go_sem] theorem T168iv (cs i) : aIndex Tryd.prog 168 (.agg cs) i = if 0 ≤ i ∧ i < 24 then takeT Tryd.prog 5 (cs.drop (i.toNat * 1)) else none := ixv_agg (n := 24) (e := 5) (s := 1) (by kernel_rfl) (by kernel_rfl) cs i
@[go_sem] theorem T168bd (xs) : aBuild Tryd.prog 168 xs = (fillA (fun i => some (i * 1, 1)) [AV.int .u8 0, AV.int .u8 0, AV.int .u8 0, AV.int .u8 0, AV.int .u8 0, AV.int .u8 0, AV.int .u8 0, AV.int .u8 0, AV.int .u8 0, AV.int .u8 0, AV.int .u8 0, AV.int .u8 0, AV.int .u8 0, AV.int .u8 0, AV.int .u8 0, AV.int .u8 0, AV.int .u8 0, AV.int .u8 0, AV.int .u8 0, AV.int .u8 0, AV.int .u8 0, AV.int .u8 0, AV.int .u8 0, AV.int .u8 0] xs).map .agg := bd_array (n := 24) (e := 5) (by kernel_rfl) (by kernel_rfl) (by kernel_rfl) xs
@[go_sem] theorem T168lf : eqLeaves Tryd.prog 168 = some [Leaf.int, Leaf.int, Leaf.int, Leaf.int, Leaf.int, Leaf.int, Leaf.int, Leaf.int, Leaf.int, Leaf.int, Leaf.int, Leaf.int, Leaf.int, Leaf.int, Leaf.int, Leaf.int, Leaf.int, Leaf.int, Leaf.int, Leaf.int, Leaf.int, Leaf.int, Leaf.int, Leaf.int] := by kernel_rfl
@[go_sem] theorem T169s : tSize Tryd.prog 169 = some 1 := by kernel_rfl
@[go_sem] theorem T169a : tAgg Tryd.prog 169 = some false := by kernel_rfl
@[go_sem] theorem T169z : tZero Tryd.prog 169 = some [AV.int .u64 0] := by kernel_rfl
@[go_sem] theorem T169u : Tryd.prog.underlying 169 = some (.int .u64) := by kernel_rfl
@[go_sem] theorem T175s : tSize Tryd.prog 175 = some 20 := by kernel_rfl
@[go_sem] theorem T175a : tAgg Tryd.prog 175 = some true := by kernel_rfl
@[go_sem] theorem T175z : tZero Tryd.prog 175 = some [AV.int .u64 0, AV.int .u64 0, AV.int .u64 0, AV.int .u64 0, AV.int .u64 0, AV.int .u64 0, AV.int .u64 0, AV.int .u64 0, AV.int .u64 0, AV.int .u64 0, AV.int .u64 0, AV.int .u64 0, AV.int .u64 0, AV.int .u64 0, AV.int .u64 0, AV.int .u64 0, AV.int .u64 0, AV.int .u64 0, AV.int .u64 0, AV.int .u64 0] := by kernel_rfl
@[go_sem] theorem T175ln (o x) : aLen Tryd.prog o 175 x = some (.int .i64 20) := ln_arr (e := 169) (by kernel_rfl) o x
@[go_sem] theorem T175ix1 (cs i) : aIndexAddr Tryd.prog 175 (.fptr cs) i = if 0 ≤ i ∧ i < 20 then some (.fptr (cs.drop (i.toNat * 1))) else none := ixa_fptr (n := 20) (e := 169) (s := 1) (by kernel_rfl) (by kernel_rfl) cs i
@[go_sem] theorem T175ix2 (k g off i) : aIndexAddr Tryd.prog 175 (.ptr k g off) i = if 0 ≤ i ∧ i < 20 then some (.ptr k g (off + i.toNat * 1)) else none := ixa_ptr (n := 20) (e := 169) (s := 1) (by kernel_rfl) (by kernel_rfl) k g off i
@[go_sem] theorem T175iv (cs i) : aIndex Tryd.prog 175 (.agg cs) i = if 0 ≤ i ∧ i < 20 then takeT Tryd.prog 169 (cs.drop (i.toNat * 1)) else none := ixv_agg (n := 20) (e := 169) (s := 1) (by kernel_rfl) (by kernel_rfl) cs i
@[go_sem] theorem T175bd (xs) : aBuild Tryd.prog 175 xs = (fillA (fun i => some (i * 1, 1)) [AV.int .u64 0, AV.int .u64 0, AV.int .u64 0, AV.int .u64 0, AV.int .u64 0, AV.int .u64 0, AV.int .u64 0, AV.int .u64 0, AV.int .u64 0, AV.int .u64 0, AV.int .u64 0, AV.int .u64 0, AV.int .u64 0, AV.int .u64 0, AV.int .u64 0, AV.int .u64 0, AV.int .u64 0, AV.int .u64 0, AV.int .u64 0, AV.int .u64 0] xs).map .agg := bd_array (n := 20) (e := 169) (by kernel_rfl) (by kernel_rfl) (by kernel_rfl) xs
@[go_sem] theorem T175lf : eqLeaves Tryd.prog 175 = some [Leaf.int, Leaf.int, Leaf.int, Leaf.int, Leaf.int, Leaf.int, Leaf.int, Leaf.int, Leaf.int, Leaf.int, Leaf.int, Leaf.int, Leaf.int, Leaf.int, Leaf.int, Leaf.int, Leaf.int, Leaf.int, Leaf.int, Leaf.int] := by kernel_rfl
@[go_sem] theorem T176s : tSize Tryd.prog 176 = some 1 := by kernel_rfl
@[go_sem] theorem T176a : tAgg Tryd.prog 176 = some false := by kernel_rfl
@[go_sem] theorem T176z : tZero Tryd.prog 176 = some [AV.int .u32 0] := by kernel_rfl
@[go_sem] theorem T176u : Tryd.prog.underlying 176 = some (.int .u32) := by kernel_rfl
@[go_sem] theorem T177s : tSize Tryd.prog 177 = some 65 := by kernel_rfl
@[go_sem] theorem T177a : tAgg Tryd.prog 177 = some true := by kernel_rfl
@[go_sem] theorem T177z : tZero Tryd.prog 177 = some [AV.int .u8 0, AV.int .u8 0, AV.int .u8 0, AV.int .u8 0, AV.int .u8 0, AV.int .u8 0, AV.int .u8 0, AV.int .u8 0, AV.int .u8 0, AV.int .u8 0, AV.int .u8 0, AV.int .u8 0, AV.int .u8 0, AV.int .u8 0, AV.int .u8 0, AV.int .u8 0, AV.int .u8 0, AV.int .u8 0, AV.int .u8 0, AV.int .u8 0, AV.int .u8 0, AV.int .u8 0, AV.int .u8 0, AV.int .u8 0, AV.int .u8 0, AV.int .u8 0, AV.int .u8 0, AV.int .u8 0, AV.int .u8 0, AV.int .u8 0, AV.int .u8 0, AV.int .u8 0, AV.int .u8 0, AV.int .u8 0, AV.int .u8 0, AV.int .u8 0, AV.int .u8 0, AV.int .u8 0, AV.int .u8 0, AV.int .u8 0, AV.int .u8 0, AV.int .u8 0, AV.int .u8 0, AV.int .u8 0, AV.int .u8 0, AV.int .u8 0, AV.int .u8 0, AV.int .u8 0, AV.int .u8 0, AV.int .u8 0, AV.int .u8 0, AV.int .u8 0, AV.int .u8 0, AV.int .u8 0, AV.int .u8 0, AV.int .u8 0, AV.int .u8 0, AV.int .u8 0, AV.int .u8 0, AV.int .u8 0, AV.int .u8 0, AV.int .u8 0, AV.int .u8 0, AV.int .u8 0, AV.int .u8 0] := by kernel_rfl
@[go_sem] theorem T177ln (o x) : aLen Tryd.prog o 177 x = some (.int .i64 65) := ln_arr (e := 5) (by kernel_rfl) o x
@[go_sem] theorem T177ix1 (cs i) : aIndexAddr Tryd.prog 177 (.fptr cs) i = if 0 ≤ i ∧ i < 65 then some (.fptr (cs.drop (i.toNat * 1))) else none := ixa_fptr (n := 65) (e := 5) (s := 1) (by kernel_rfl) (by kernel_rfl) cs i
@[go_sem] theorem T177ix2 (k g off i) : aIndexAddr Tryd.prog 177 (.ptr k g off) i = if 0 ≤ i ∧ i < 65 then some (.ptr k g (off + i.toNat * 1)) else none := ixa_ptr (n := 65) (e := 5) (s := 1) (by kernel_rfl) (by kernel_rfl) k g off i
@[go_sem] theorem T177iv (cs i) : aIndex Tryd.prog 177 (.agg cs) i = if 0 ≤ i ∧ i < 65 then takeT Tryd.prog 5 (cs.drop (i.toNat * 1)) else none := ixv_agg (n := 65) (e := 5) (s := 1) (by kernel_rfl) (by kernel_rfl) cs i
@[go_sem] theorem T177bd (xs) : aBuild Tryd.prog 177 xs = (fillA (fun i => some (i * 1, 1)) [AV.int .u8 0, AV.int .u8 0, AV.int .u8 0, AV.int .u8 0, AV.int .u8 0, AV.int .u8 0, AV.int .u8 0, AV.int .u8 0, AV.int .u8 0, AV.int .u8 0, AV.int .u8 0, AV.int .u8 0, AV.int .u8 0, AV.int .u8 0, AV.int .u8 0, AV.int .u8 0, AV.int .u8 0, AV.int .u8 0, AV.int .u8 0, AV.int .u8 0, AV.int .u8 0, AV.int .u8 0, AV.int .u8 0, AV.int .u8 0, AV.int .u8 0, AV.int .u8 0, AV.int .u8 0, AV.int .u8 0, AV.int .u8 0, AV.int .u8 0, AV.int .u8 0, AV.int .u8 0, AV.int .u8 0, AV.int .u8 0, AV.int .u8 0, AV.int .u8 0, AV.int .u8 0, AV.int .u8 0, AV.int .u8 0, AV.int .u8 0, AV.int .u8 0, AV.int .u8 0, AV.int .u8 0, AV.int .u8 0, AV.int .u8 0, AV.int .u8 0, AV.int .u8 0, AV.int .u8 0, AV.int .u8 0, AV.int .u8 0, AV.int .u8 0, AV.int .u8 0, AV.int .u8 0, AV.int .u8 0, AV.int .u8 0, AV.int .u8 0, AV.int .u8 0, AV.int .u8 0, AV.int .u8 0, AV.int .u8 0, AV.int .u8 0, AV.int .u8 0, AV.int .u8 0, AV.int .u8 0, AV.int .u8 0] xs).map .agg := bd_array (n := 65) (e := 5) (by kernel_rfl) (by kernel_rfl) (by kernel_rfl) xs
@[go_sem] theorem T177lf : eqLeaves Tryd.prog 177 = some [Leaf.int, Leaf.int, Leaf.int, Leaf.int, Leaf.int, Leaf.int, Leaf.int, Leaf.int, Leaf.int, Leaf.int, Leaf.int, Leaf.int, Leaf.int, Leaf.int, Leaf.int, Leaf.int, Leaf.int, Leaf.int, Leaf.int, Leaf.int, Leaf.int, Leaf.int, Leaf.int, Leaf.int, Leaf.int, Leaf.int, Leaf.int, Leaf.int, Leaf.int, Leaf.int, Leaf.int, Leaf.int, Leaf.int, Leaf.int, Leaf.int, Leaf.int, Leaf.int, Leaf.int, Leaf.int, Leaf.int, Leaf.int, Leaf.int, Leaf.int, Leaf.int, Leaf.int, Leaf.int, Leaf.int, Leaf.int, Leaf.int, Leaf.int, Leaf.int, Leaf.int, Leaf.int, Leaf.int, Leaf.int, Leaf.int, Leaf.int, Leaf.int, Leaf.int, Leaf.int, Leaf.int, Leaf.int, Leaf.int, Leaf.int, Leaf.int] := by kernel_rfl
@[go_sem] theorem T180s : tSize Tryd.prog 180 = some 32 := by kernel_rfl
@[go_sem] theorem T180a : tAgg Tryd.prog 180 = some true := by kernel_rfl
@[go_sem] theorem T180z : tZero Tryd.prog 180 = some [AV.int .u8 0, AV.int .u8 0, AV.int .u8 0, AV.int .u8 0, AV.int .u8 0, AV.int .u8 0, AV.int .u8 0, AV.int .u8 0, AV.int .u8 0, AV.int .u8 0, AV.int .u8 0, AV.int .u8 0, AV.int .u8 0, AV.int .u8 0, AV.int .u8 0, AV.int .u8 0, AV.int .u8 0, AV.int .u8 0, AV.int .u8 0, AV.int .u8 0, AV.int .u8 0, AV.int .u8 0, AV.int .u8 0, AV.int .u8 0, AV.int .u8 0, AV.int .u8 0, AV.int .u8 0, AV.int .u8 0, AV.int .u8 0, AV.int .u8 0, AV.int .u8 0, AV.int .u8 0] := by kernel_rfl
@[go_sem] theorem T180ln (o x) : aLen Tryd.prog o 180 x = some (.int .i64 32) := ln_arr (e := 5) (by kernel_rfl) o x
@[go_sem] theorem T180ix1 (cs i) : aIndexAddr Tryd.prog 180 (.fptr cs) i = if 0 ≤ i ∧ i < 32 then some (.fptr (cs.drop (i.toNat * 1))) else none := ixa_fptr (n := 32) (e := 5) (s := 1) (by kernel_rfl) (by kernel_rfl) cs i
@[go_sem] theorem T180ix2 (k g off i) : aIndexAddr Tryd.prog 180 (.ptr k g off) i = if 0 ≤ i ∧ i < 32 then some (.ptr k g (off + i.toNat * 1)) else none := ixa_ptr (n := 32) (e := 5) (s := 1) (by kernel_rfl) (by kernel_rfl) k g off i
@[go_sem] theorem T180iv (cs i) : aIndex Tryd.prog 180 (.agg cs) i = if 0 ≤ i ∧ i < 32 then takeT Tryd.prog 5 (cs.drop (i.toNat * 1)) else none := ixv_agg (n := 32) (e := 5) (s := 1) (by kernel_rfl) (by kernel_rfl) cs i
@[go_sem] theorem T180bd (xs) : aBuild Tryd.prog 180 xs = (fillA (fun i => some (i * 1, 1)) [AV.int .u8 0, AV.int .u8 0, AV.int .u8 0, AV.int .u8 0, AV.int .u8 0, AV.int .u8 0, AV.int .u8 0, AV.int .u8 0, AV.int .u8 0, AV.int .u8 0, AV.int .u8 0, AV.int .u8 0, AV.int .u8 0, AV.int .u8 0, AV.int .u8 0, AV.int .u8 0, AV.int .u8 0, AV.int .u8 0, AV.int .u8 0, AV.int .u8 0, AV.int .u8 0, AV.int .u8 0, AV.int .u8 0, AV.int .u8 0, AV.int .u8 0, AV.int .u8 0, AV.int .u8 0, AV.int .u8 0, AV.int .u8 0, AV.int .u8 0, AV.int .u8 0, AV.int .u8 0] xs).map .agg := bd_array (n := 32) (e := 5) (by kernel_rfl) (by kernel_rfl) (by kernel_rfl) xs
@[go_sem] theorem T180lf : eqLeaves Tryd.prog 180 = some [Leaf.int, Leaf.int, Leaf.int, Leaf.int, Leaf.int, Leaf.int, Leaf.int, Leaf.int, Leaf.int, Leaf.int, Leaf.int, Leaf.int, Leaf.int, Leaf.int, Leaf.int, Leaf.int, Leaf.int, Leaf.int, Leaf.int, Leaf.int, Leaf.int, Leaf.int, Leaf.int, Leaf.int, Leaf.int, Leaf.int, Leaf.int, Leaf.int, Leaf.int, Leaf.int, Leaf.int, Leaf.int] := by kernel_rfl
@[go_sem] theorem T181s : tSize Tryd.prog 181 = some 64 := by kernel_rfl
@[go_sem] theorem T181a : tAgg Tryd.prog 181 = some true := by kernel_rfl
@[go_sem] theorem T181z : tZero Tryd.prog 181 = some [AV.int .u8 0, AV.int .u8 0, AV.int .u8 0, AV.int .u8 0, AV.int .u8 0, AV.int .u8 0, AV.int .u8 0, AV.int .u8 0, AV.int .u8 0, AV.int .u8 0, AV.int .u8 0, AV.int .u8 0, AV.int .u8 0, AV.int .u8 0, AV.int .u8 0, AV.int .u8 0, AV.int .u8 0, AV.int .u8 0, AV.int .u8 0, AV.int .u8 0, AV.int .u8 0, AV.int .u8 0, AV.int .u8 0, AV.int .u8 0, AV.int .u8 0, AV.int .u8 0, AV.int .u8 0, AV.int .u8 0, AV.int .u8 0, AV.int .u8 0, AV.int .u8 0, AV.int .u8 0, AV.int .u8 0, AV.int .u8 0, AV.int .u8 0, AV.int .u8 0, AV.int .u8 0, AV.int .u8 0, AV.int .u8 0, AV.int .u8 0, AV.int .u8 0, AV.int .u8 0, AV.int .u8 0, AV.int .u8 0, AV.int .u8 0, AV.int .u8 0, AV.int .u8 0, AV.int .u8 0, AV.int .u8 0, AV.int .u8 0, AV.int .u8 0, AV.int .u8 0, AV.int .u8 0, AV.int .u8 0, AV.int .u8 0, AV.int .u8 0, AV.int .u8 0, AV.int .u8 0, AV.int .u8 0, AV.int .u8 0, AV.int .u8 0, AV.int .u8 0, AV.int .u8 0, AV.int .u8 0] := by kernel_rfl
@[go_sem] theorem T181ln (o x) : aLen Tryd.prog o 181 x = some (.int .i64 64) := ln_arr (e := 5) (by kernel_rfl) o x
@[go_sem] theorem T181ix1 (cs i) : aIndexAddr Tryd.prog 181 (.fptr cs) i = if 0 ≤ i ∧ i < 64 then some (.fptr (cs.drop (i.toNat * 1))) else none := ixa_fptr (n := 64) (e := 5) (s := 1) (by kernel_rfl) (by kernel_rfl) cs i
@[go_sem] theorem T181ix2 (k g off i) : aIndexAddr Tryd.prog 181 (.ptr k g off) i = if 0 ≤ i ∧ i < 64 then some (.ptr k g (off + i.toNat * 1)) else none := ixa_ptr (n := 64) (e := 5) (s := 1) (by kernel_rfl) (by kernel_rfl) k g off i
@[go_sem] theorem T181iv (cs i) : aIndex Tryd.prog 181 (.agg cs) i = if 0 ≤ i ∧ i < 64 then takeT Tryd.prog 5 (cs.drop (i.toNat * 1)) else none := ixv_agg (n := 64) (e := 5) (s := 1) (by kernel_rfl) (by kernel_rfl) cs i
@[go_sem] theorem T181bd (xs) : aBuild Tryd.prog 181 xs = (fillA (fun i => some (i * 1, 1)) [AV.int .u8 0, AV.int .u8 0, AV.int .u8 0, AV.int .u8 0, AV.int .u8 0, AV.int .u8 0, AV.int .u8 0, AV.int .u8 0, AV.int .u8 0, AV.int .u8 0, AV.int .u8 0, AV.int .u8 0, AV.int .u8 0, AV.int .u8 0, AV.int .u8 0, AV.int .u8 0, AV.int .u8 0, AV.int .u8 0, AV.int .u8 0, AV.int .u8 0, AV.int .u8 0, AV.int .u8 0, AV.int .u8 0, AV.int .u8 0, AV.int .u8 0, AV.int .u8 0, AV.int .u8 0, AV.int .u8 0, AV.int .u8 0, AV.int .u8 0, AV.int .u8 0, AV.int .u8 0, AV.int .u8 0, AV.int .u8 0, AV.int .u8 0, AV.int .u8 0, AV.int .u8 0, AV.int .u8 0, AV.int .u8 0, AV.int .u8 0, AV.int .u8 0, AV.int .u8 0, AV.int .u8 0, AV.int .u8 0, AV.int .u8 0, AV.int .u8 0, AV.int .u8 0, AV.int .u8 0, AV.int .u8 0, AV.int .u8 0, AV.int .u8 0, AV.int .u8 0, AV.int .u8 0, AV.int .u8 0, AV.int .u8 0, AV.int .u8 0, AV.int .u8 0, AV.int .u8 0, AV.int .u8 0, AV.int .u8 0, AV.int .u8 0, AV.int .u8 0, AV.int .u8 0, AV.int .u8 0] xs).map .agg := bd_array (n := 64) (e := 5) (by kernel_rfl) (by kernel_rfl) (by kernel_rfl) xs
@[go_sem] theorem T181lf : eqLeaves Tryd.prog 181 = some [Leaf.int, Leaf.int, Leaf.int, Leaf.int, Leaf.int, Leaf.int, Leaf.int, Leaf.int, Leaf.int, Leaf.int, Leaf.int, Leaf.int, Leaf.int, Leaf.int, Leaf.int, Leaf.int, Leaf.int, Leaf.int, Leaf.int, Leaf.int, Leaf.int, Leaf.int, Leaf.int, Leaf.int, Leaf.int, Leaf.int, Leaf.int, Leaf.int, Leaf.int, Leaf.int, Leaf.int, Leaf.int, Leaf.int, Leaf.int, Leaf.int, Leaf.int, Leaf.int, Leaf.int, Leaf.int, Leaf.int, Leaf.int, Leaf.int, Leaf.int, Leaf.int, Leaf.int, Leaf.int, Leaf.int, Leaf.int, Leaf.int, Leaf.int, Leaf.int, Leaf.int, Leaf.int, Leaf.int, Leaf.int, Leaf.int, Leaf.int, Leaf.int, Leaf.int, Leaf.int, Leaf.int, Leaf.int, Leaf.int, Leaf.int] := by kernel_rfl
@[go_sem] theorem T183s : tSize Tryd.prog 183 = some 4 := by kernel_rfl
@[go_sem] theorem T183a : tAgg Tryd.prog 183 = some true := by kernel_rfl
@[go_sem] theorem T183z : tZero Tryd.prog 183 = some [AV.nilp, AV.nilp, AV.nilp, AV.str []] := by kernel_rfl
@[go_sem] theorem T183f0p (k g off) : fieldAddrA Tryd.prog 183 0 (.ptr k g off) = some (.ptr k g (off + 0)) := fa_ptr (s := 0) (ft := 17) (by kernel_rfl) (by kernel_rfl) k g off
@[go_sem] theorem T183f0q (cs) : fieldAddrA Tryd.prog 183 0 (.fptr cs) = some (.fptr (cs.drop 0)) := fa_fptr (s := 0) (ft := 17) (by kernel_rfl) (by kernel_rfl) cs
@[go_sem] theorem T183f0v (cs) : fieldA Tryd.prog 183 0 (.agg cs) = takeT Tryd.prog 17 (cs.drop 0) := fi_agg (by kernel_rfl) cs
@[go_sem] theorem T183f1p (k g off) : fieldAddrA Tryd.prog 183 1 (.ptr k g off) = some (.ptr k g (off + 1)) := fa_ptr (s := 0) (ft := 17) (by kernel_rfl) (by kernel_rfl) k g off
@[go_sem] theorem T183f1q (cs) : fieldAddrA Tryd.prog 183 1 (.fptr cs) = some (.fptr (cs.drop 1)) := fa_fptr (s := 0) (ft := 17) (by kernel_rfl) (by kernel_rfl) cs
@[go_sem] theorem T183f1v (cs) : fieldA Tryd.prog 183 1 (.agg cs) = takeT Tryd.prog 17 (cs.drop 1) := fi_agg (by kernel_rfl) cs
@[go_sem] theorem T183f2p (k g off) : fieldAddrA Tryd.prog 183 2 (.ptr k g off) = some (.ptr k g (off + 2)) := fa_ptr (s := 0) (ft := 17) (by kernel_rfl) (by kernel_rfl) k g off
@[go_sem] theorem T183f2q (cs) : fieldAddrA Tryd.prog 183 2 (.fptr cs) = some (.fptr (cs.drop 2)) := fa_fptr (s := 0) (ft := 17) (by kernel_rfl) (by kernel_rfl) cs
@[go_sem] theorem T183f2v (cs) : fieldA Tryd.prog 183 2 (.agg cs) = takeT Tryd.prog 17 (cs.drop 2) := fi_agg (by kernel_rfl) cs
@[go_sem] theorem T183f3p (k g off) : fieldAddrA Tryd.prog 183 3 (.ptr k g off) = some (.ptr k g (off + 3)) := fa_ptr (s := 0) (ft := 9) (by kernel_rfl) (by kernel_rfl) k g off
@[go_sem] theorem T183f3q (cs) : fieldAddrA Tryd.prog 183 3 (.fptr cs) = some (.fptr (cs.drop 3)) := fa_fptr (s := 0) (ft := 9) (by kernel_rfl) (by kernel_rfl) cs
@[go_sem] theorem T183f3v (cs) : fieldA Tryd.prog 183 3 (.agg cs) = takeT Tryd.prog 9 (cs.drop 3) := fi_agg (by kernel_rfl) cs
@[go_sem] theorem T183bd (xs) : aBuild Tryd.prog 183 xs = (fillA (fun i => ([(0, 1), (1, 1), (2, 1), (3, 1)] : List (Nat × Nat))[i]?) [AV.nilp, AV.nilp, AV.nilp, AV.str []] xs).map .agg := by kernel_rfl
@[go_sem] theorem T184s : tSize Tryd.prog 184 = some 4 := by kernel_rfl
@[go_sem] theorem T184a : tAgg Tryd.prog 184 = some true := by kernel_rfl
@[go_sem] theorem T184z : tZero Tryd.prog 184 = some [AV.nilp, AV.nilp, AV.nilp, AV.str []] := by kernel_rfl
@[go_sem] theorem T184f0p (k g off) : fieldAddrA Tryd.prog 184 0 (.ptr k g off) = some (.ptr k g (off + 0)) := fa_ptr (s := 0) (ft := 17) (by kernel_rfl) (by kernel_rfl) k g off
@[go_sem] theorem T184f0q (cs) : fieldAddrA Tryd.prog 184 0 (.fptr cs) = some (.fptr (cs.drop 0)) := fa_fptr (s := 0) (ft := 17) (by kernel_rfl) (by kernel_rfl) cs
@[go_sem] theorem T184f0v (cs) : fieldA Tryd.prog 184 0 (.agg cs) = takeT Tryd.prog 17 (cs.drop 0) := fi_agg (by kernel_rfl) cs
@[go_sem] theorem T184f1p (k g off) : fieldAddrA Tryd.prog 184 1 (.ptr k g off) = some (.ptr k g (off + 1)) := fa_ptr (s := 0) (ft := 17) (by kernel_rfl) (by kernel_rfl) k g off
@[go_sem] theorem T184f1q (cs) : fieldAddrA Tryd.prog 184 1 (.fptr cs) = some (.fptr (cs.drop 1)) := fa_fptr (s := 0) (ft := 17) (by kernel_rfl) (by kernel_rfl) cs
@[go_sem] theorem T184f1v (cs) : fieldA Tryd.prog 184 1 (.agg cs) = takeT Tryd.prog 17 (cs.drop 1) := fi_agg (by kernel_rfl) cs
@[go_sem] theorem T184f2p (k g off) : fieldAddrA Tryd.prog 184 2 (.ptr k g off) = some (.ptr k g (off + 2)) := fa_ptr (s := 0) (ft := 17) (by kernel_rfl) (by kernel_rfl) k g off
@[go_sem] theorem T184f2q (cs) : fieldAddrA Tryd.prog 184 2 (.fptr cs) = some (.fptr (cs.drop 2)) := fa_fptr (s := 0) (ft := 17) (by kernel_rfl) (by kernel_rfl) cs
@[go_sem] theorem T184f2v (cs) : fieldA Tryd.prog 184 2 (.agg cs) = takeT Tryd.prog 17 (cs.drop 2) := fi_agg (by kernel_rfl) cs
@[go_sem] theorem T184f3p (k g off) : fieldAddrA Tryd.prog 184 3 (.ptr k g off) = some (.ptr k g (off + 3)) := fa_ptr (s := 0) (ft := 9) (by kernel_rfl) (by kernel_rfl) k g off
@[go_sem] theorem T184f3q (cs) : fieldAddrA Tryd.prog 184 3 (.fptr cs) = some (.fptr (cs.drop 3)) := fa_fptr (s := 0) (ft := 9) (by kernel_rfl) (by kernel_rfl) cs
@[go_sem] theorem T184f3v (cs) : fieldA Tryd.prog 184 3 (.agg cs) = takeT Tryd.prog 9 (cs.drop 3) := fi_agg (by kernel_rfl) cs
@[go_sem] theorem T184bd (xs) : aBuild Tryd.prog 184 xs = (fillA (fun i => ([(0, 1), (1, 1), (2, 1), (3, 1)] : List (Nat × Nat))[i]?) [AV.nilp, AV.nilp, AV.nilp, AV.str []] xs).map .agg := by kernel_rfl
@[go_sem] theorem T185s : tSize Tryd.prog 185 = some 0 := by kernel_rfl
@[go_sem] theorem T185a : tAgg Tryd.prog 185 = some true := by kernel_rfl
@[go_sem] theorem T185z : tZero Tryd.prog 185 = some [] := by kernel_rfl
@[go_sem] theorem T185ln (o x) : aLen Tryd.prog o 185 x = some (.int .i64 0) := ln_arr (e := 16) (by kernel_rfl) o x
@[go_sem] theorem T185ix1 (cs i) : aIndexAddr Tryd.prog 185 (.fptr cs) i = if 0 ≤ i ∧ i < 0 then some (.fptr (cs.drop (i.toNat * 1))) else none := ixa_fptr (n := 0) (e := 16) (s := 1) (by kernel_rfl) (by kernel_rfl) cs i
@[go_sem] theorem T185ix2 (k g off i) : aIndexAddr Tryd.prog 185 (.ptr k g off) i = if 0 ≤ i ∧ i < 0 then some (.ptr k g (off + i.toNat * 1)) else none := ixa_ptr (n := 0) (e := 16) (s := 1) (by kernel_rfl) (by kernel_rfl) k g off i
@[go_sem] theorem T185iv (cs i) : aIndex Tryd.prog 185 (.agg cs) i = if 0 ≤ i ∧ i < 0 then takeT Tryd.prog 16 (cs.drop (i.toNat * 1)) else none := ixv_agg (n := 0) (e := 16) (s := 1) (by kernel_rfl) (by kernel_rfl) cs i
@[go_sem] theorem T185bd (xs) : aBuild Tryd.prog 185 xs = (fillA (fun i => some (i * 1, 1)) [] xs).map .agg := bd_array (n := 0) (e := 16) (by kernel_rfl) (by kernel_rfl) (by kernel_rfl) xs
@[go_sem] theorem T186s : tSize Tryd.prog 186 = some 0 := by kernel_rfl
@[go_sem] theorem T186a : tAgg Tryd.prog 186 = some true := by kernel_rfl
@[go_sem] theorem T186z : tZero Tryd.prog 186 = some [] := by kernel_rfl
@[go_sem] theorem T186bd (xs) : aBuild Tryd.prog 186 xs = (fillA (fun i => ([(0, 0)] : List (Nat × Nat))[i]?) [] xs).map .agg := by kernel_rfl
@[go_sem] theorem T187s : tSize Tryd.prog 187 = some 0 := by kernel_rfl
@[go_sem] theorem T187a : tAgg Tryd.prog 187 = some true := by kernel_rfl
@[go_sem] theorem T187z : tZero Tryd.prog 187 = some [] := by kernel_rfl
@[go_sem] theorem T187bd (xs) : aBuild Tryd.prog 187 xs = (fillA (fun i => ([(0, 0)] : List (Nat × Nat))[i]?) [] xs).map .agg := by kernel_rfl
@[go_sem] theorem T188s : tSize Tryd.prog 188 = some 1 := by kernel_rfl
@[go_sem] theorem T188a : tAgg Tryd.prog 188 = some false := by kernel_rfl
@[go_sem] theorem T188z : tZero Tryd.prog 188 = some [AV.int .u8 0] := by kernel_rfl
@[go_sem] theorem T188u : Tryd.prog.underlying 188 = some (.int .u8) := by kernel_rfl
@[go_sem] theorem T189s : tSize Tryd.prog 189 = some 1 := by kernel_rfl
@[go_sem] theorem T189a : tAgg Tryd.prog 189 = some false := by kernel_rfl
@[go_sem] theorem T189z : tZero Tryd.prog 189 = some [AV.int .u8 0] := by kernel_rfl
@[go_sem] theorem T189u : Tryd.prog.underlying 189 = some (.int .u8) := by kernel_rfl
@[go_sem] theorem T191s : tSize Tryd.prog 191 = some 1 := by kernel_rfl
@[go_sem] theorem T191a : tAgg Tryd.prog 191 = some false := by kernel_rfl
@[go_sem] theorem T191z : tZero Tryd.prog 191 = some [AV.nilp] := by kernel_rfl
@[go_sem] theorem T192s : tSize Tryd.prog 192 = some 1 := by kernel_rfl
@[go_sem] theorem T192a : tAgg Tryd.prog 192 = some false := by kernel_rfl
@[go_sem] theorem T192z : tZero Tryd.prog 192 = some [AV.int .i32 0] := by kernel_rfl
@[go_sem] theorem T192u : Tryd.prog.underlying 192 = some (.int .i32) := by kernel_rfl
@[go_sem] theorem T193s : tSize Tryd.prog 193 = some 1 := by kernel_rfl
@[go_sem] theorem T193a : tAgg Tryd.prog 193 = some false := by kernel_rfl
@[go_sem] theorem T193z : tZero Tryd.prog 193 = some [AV.int .i32 0] := by kernel_rfl
@[go_sem] theorem T193u : Tryd.prog.underlying 193 = some (.int .i32) := by kernel_rfl
@[go_sem] theorem T194s : tSize Tryd.prog 194 = some 11 := by kernel_rfl
@[go_sem] theorem T194a : tAgg Tryd.prog 194 = some true := by kernel_rfl
@[go_sem] theorem T194f0p (k g off) : fieldAddrA Tryd.prog 194 0 (.ptr k g off) = some (.ptr k g (off + 0)) := fa_ptr (s := 0) (ft := 12) (by kernel_rfl) (by kernel_rfl) k g off
@[go_sem] theorem T194f0q (cs) : fieldAddrA Tryd.prog 194 0 (.fptr cs) = some (.fptr (cs.drop 0)) := fa_fptr (s := 0) (ft := 12) (by kernel_rfl) (by kernel_rfl) cs
@[go_sem] theorem T194f0v (cs) : fieldA Tryd.prog 194 0 (.agg cs) = takeT Tryd.prog 12 (cs.drop 0) := fi_agg (by kernel_rfl) cs
@[go_sem] theorem T194f1p (k g off) : fieldAddrA Tryd.prog 194 1 (.ptr k g off) = some (.ptr k g (off + 1)) := fa_ptr (s := 0) (ft := 12) (by kernel_rfl) (by kernel_rfl) k g off
@[go_sem] theorem T194f1q (cs) : fieldAddrA Tryd.prog 194 1 (.fptr cs) = some (.fptr (cs.drop 1)) := fa_fptr (s := 0) (ft := 12) (by kernel_rfl) (by kernel_rfl) cs
@[go_sem] theorem T194f1v (cs) : fieldA Tryd.prog 194 1 (.agg cs) = takeT Tryd.prog 12 (cs.drop 1) := fi_agg (by kernel_rfl) cs
@[go_sem] theorem T194f2p (k g off) : fieldAddrA Tryd.prog 194 2 (.ptr k g off) = some (.ptr k g (off + 2)) := fa_ptr (s := 0) (ft := 176) (by kernel_rfl) (by kernel_rfl) k g off
@[go_sem] theorem T194f2q (cs) : fieldAddrA Tryd.prog 194 2 (.fptr cs) = some (.fptr (cs.drop 2)) := fa_fptr (s := 0) (ft := 176) (by kernel_rfl) (by kernel_rfl) cs
@[go_sem] theorem T194f2v (cs) : fieldA Tryd.prog 194 2 (.agg cs) = takeT Tryd.prog 176 (cs.drop 2) := fi_agg (by kernel_rfl) cs
@[go_sem] theorem T194f3p (k g off) : fieldAddrA Tryd.prog 194 3 (.ptr k g off) = some (.ptr k g (off + 3)) := fa_ptr (s := 0) (ft := 188) (by kernel_rfl) (by kernel_rfl) k g off
@[go_sem] theorem T194f3q (cs) : fieldAddrA Tryd.prog 194 3 (.fptr cs) = some (.fptr (cs.drop 3)) := fa_fptr (s := 0) (ft := 188) (by kernel_rfl) (by kernel_rfl) cs
@[go_sem] theorem T194f3v (cs) : fieldA Tryd.prog 194 3 (.agg cs) = takeT Tryd.prog 188 (cs.drop 3) := fi_agg (by kernel_rfl) cs
@[go_sem] theorem T194f4p (k g off) : fieldAddrA Tryd.prog 194 4 (.ptr k g off) = some (.ptr k g (off + 4)) := fa_ptr (s := 0) (ft := 5) (by kernel_rfl) (by kernel_rfl) k g off
@[go_sem] theorem T194f4q (cs) : fieldAddrA Tryd.prog 194 4 (.fptr cs) = some (.fptr (cs.drop 4)) := fa_fptr (s := 0) (ft := 5) (by kernel_rfl) (by kernel_rfl) cs
@[go_sem] theorem T194f4v (cs) : fieldA Tryd.prog 194 4 (.agg cs) = takeT Tryd.prog 5 (cs.drop 4) := fi_agg (by kernel_rfl) cs
@[go_sem] theorem T194f5p (k g off) : fieldAddrA Tryd.prog 194 5 (.ptr k g off) = some (.ptr k g (off + 5)) := fa_ptr (s := 0) (ft := 5) (by kernel_rfl) (by kernel_rfl) k g off
@[go_sem] theorem T194f5q (cs) : fieldAddrA Tryd.prog 194 5 (.fptr cs) = some (.fptr (cs.drop 5)) := fa_fptr (s := 0) (ft := 5) (by kernel_rfl) (by kernel_rfl) cs
@[go_sem] theorem T194f5v (cs) : fieldA Tryd.prog 194 5 (.agg cs) = takeT Tryd.prog 5 (cs.drop 5) := fi_agg (by kernel_rfl) cs
@[go_sem] theorem T194f6p (k g off) : fieldAddrA Tryd.prog 194 6 (.ptr k g off) = some (.ptr k g (off + 6)) := fa_ptr (s := 0) (ft := 189) (by kernel_rfl) (by kernel_rfl) k g off
@[go_sem] theorem T194f6q (cs) : fieldAddrA Tryd.prog 194 6 (.fptr cs) = some (.fptr (cs.drop 6)) := fa_fptr (s := 0) (ft := 189) (by kernel_rfl) (by kernel_rfl) cs
@[go_sem] theorem T194f6v (cs) : fieldA Tryd.prog 194 6 (.agg cs) = takeT Tryd.prog 189 (cs.drop 6) := fi_agg (by kernel_rfl) cs
@[go_sem] theorem T194f7p (k g off) : fieldAddrA Tryd.prog 194 7 (.ptr k g off) = some (.ptr k g (off + 7)) := fa_ptr (s := 0) (ft := 190) (by kernel_rfl) (by kernel_rfl) k g off
@[go_sem] theorem T194f7q (cs) : fieldAddrA Tryd.prog 194 7 (.fptr cs) = some (.fptr (cs.drop 7)) := fa_fptr (s := 0) (ft := 190) (by kernel_rfl) (by kernel_rfl) cs
@[go_sem] theorem T194f7v (cs) : fieldA Tryd.prog 194 7 (.agg cs) = takeT Tryd.prog 190 (cs.drop 7) := fi_agg (by kernel_rfl) cs
@[go_sem] theorem T194f8p (k g off) : fieldAddrA Tryd.prog 194 8 (.ptr k g off) = some (.ptr k g (off + 8)) := fa_ptr (s := 0) (ft := 191) (by kernel_rfl) (by kernel_rfl) k g off
@[go_sem] theorem T194f8q (cs) : fieldAddrA Tryd.prog 194 8 (.fptr cs) = some (.fptr (cs.drop 8)) := fa_fptr (s := 0) (ft := 191) (by kernel_rfl) (by kernel_rfl) cs
@[go_sem] theorem T194f8v (cs) : fieldA Tryd.prog 194 8 (.agg cs) = takeT Tryd.prog 191 (cs.drop 8) := fi_agg (by kernel_rfl) cs
@[go_sem] theorem T194f9p (k g off) : fieldAddrA Tryd.prog 194 9 (.ptr k g off) = some (.ptr k g (off + 9)) := fa_ptr (s := 0) (ft := 192) (by kernel_rfl) (by kernel_rfl) k g off
@[go_sem] theorem T194f9q (cs) : fieldAddrA Tryd.prog 194 9 (.fptr cs) = some (.fptr (cs.drop 9)) := fa_fptr (s := 0) (ft := 192) (by kernel_rfl) (by kernel_rfl) cs
@[go_sem] theorem T194f9v (cs) : fieldA Tryd.prog 194 9 (.agg cs) = takeT Tryd.prog 192 (cs.drop 9) := fi_agg (by kernel_rfl) cs
@[go_sem] theorem T194f10p (k g off) : fieldAddrA Tryd.prog 194 10 (.ptr k g off) = some (.ptr k g (off + 10)) := fa_ptr (s := 0) (ft := 193) (by kernel_rfl) (by kernel_rfl) k g off
@[go_sem] theorem T194f10q (cs) : fieldAddrA Tryd.prog 194 10 (.fptr cs) = some (.fptr (cs.drop 10)) := fa_fptr (s := 0) (ft := 193) (by kernel_rfl) (by kernel_rfl) cs
@[go_sem] theorem T194f10v (cs) : fieldA Tryd.prog 194 10 (.agg cs) = takeT Tryd.prog 193 (cs.drop 10) := fi_agg (by kernel_rfl) cs
@[go_sem] theorem T195s : tSize Tryd.prog 195 = some 11 := by kernel_rfl
@[go_sem] theorem T195a : tAgg Tryd.prog 195 = some true := by kernel_rfl
@[go_sem] theorem T195f0p (k g off) : fieldAddrA Tryd.prog 195 0 (.ptr k g off) = some (.ptr k g (off + 0)) := fa_ptr (s := 0) (ft := 12) (by kernel_rfl) (by kernel_rfl) k g off
@[go_sem] theorem T195f0q (cs) : fieldAddrA Tryd.prog 195 0 (.fptr cs) = some (.fptr (cs.drop 0)) := fa_fptr (s := 0) (ft := 12) (by kernel_rfl) (by kernel_rfl) cs
@[go_sem] theorem T195f0v (cs) : fieldA Tryd.prog 195 0 (.agg cs) = takeT Tryd.prog 12 (cs.drop 0) := fi_agg (by kernel_rfl) cs
@[go_sem] theorem T195f1p (k g off) : fieldAddrA Tryd.prog 195 1 (.ptr k g off) = some (.ptr k g (off + 1)) := fa_ptr (s := 0) (ft := 12) (by kernel_rfl) (by kernel_rfl) k g off
@[go_sem] theorem T195f1q (cs) : fieldAddrA Tryd.prog 195 1 (.fptr cs) = some (.fptr (cs.drop 1)) := fa_fptr (s := 0) (ft := 12) (by kernel_rfl) (by kernel_rfl) cs
@[go_sem] theorem T195f1v (cs) : fieldA Tryd.prog 195 1 (.agg cs) = takeT Tryd.prog 12 (cs.drop 1) := fi_agg (by kernel_rfl) cs
@[go_sem] theorem T195f2p (k g off) : fieldAddrA Tryd.prog 195 2 (.ptr k g off) = some (.ptr k g (off + 2)) := fa_ptr (s := 0) (ft := 176) (by kernel_rfl) (by kernel_rfl) k g off
@[go_sem] theorem T195f2q (cs) : fieldAddrA Tryd.prog 195 2 (.fptr cs) = some (.fptr (cs.drop 2)) := fa_fptr (s := 0) (ft := 176) (by kernel_rfl) (by kernel_rfl) cs
@[go_sem] theorem T195f2v (cs) : fieldA Tryd.prog 195 2 (.agg cs) = takeT Tryd.prog 176 (cs.drop 2) := fi_agg (by kernel_rfl) cs
@[go_sem] theorem T195f3p (k g off) : fieldAddrA Tryd.prog 195 3 (.ptr k g off) = some (.ptr k g (off + 3)) := fa_ptr (s := 0) (ft := 188) (by kernel_rfl) (by kernel_rfl) k g off
@[go_sem] theorem T195f3q (cs) : fieldAddrA Tryd.prog 195 3 (.fptr cs) = some (.fptr (cs.drop 3)) := fa_fptr (s := 0) (ft := 188) (by kernel_rfl) (by kernel_rfl) cs
@[go_sem] theorem T195f3v (cs) : fieldA Tryd.prog 195 3 (.agg cs) = takeT Tryd.prog 188 (cs.drop 3) := fi_agg (by kernel_rfl) cs
@[go_sem] theorem T195f4p (k g off) : fieldAddrA Tryd.prog 195 4 (.ptr k g off) = some (.ptr k g (off + 4)) := fa_ptr (s := 0) (ft := 5) (by kernel_rfl) (by kernel_rfl) k g off
@[go_sem] theorem T195f4q (cs) : fieldAddrA Tryd.prog 195 4 (.fptr cs) = some (.fptr (cs.drop 4)) := fa_fptr (s := 0) (ft := 5) (by kernel_rfl) (by kernel_rfl) cs
@[go_sem] theorem T195f4v (cs) : fieldA Tryd.prog 195 4 (.agg cs) = takeT Tryd.prog 5 (cs.drop 4) := fi_agg (by kernel_rfl) cs
@[go_sem] theorem T195f5p (k g off) : fieldAddrA Tryd.prog 195 5 (.ptr k g off) = some (.ptr k g (off + 5)) := fa_ptr (s := 0) (ft := 5) (by kernel_rfl) (by kernel_rfl) k g off
@[go_sem] theorem T195f5q (cs) : fieldAddrA Tryd.prog 195 5 (.fptr cs) = some (.fptr (cs.drop 5)) := fa_fptr (s := 0) (ft := 5) (by kernel_rfl) (by kernel_rfl) cs
@[go_sem] theorem T195f5v (cs) : fieldA Tryd.prog 195 5 (.agg cs) = takeT Tryd.prog 5 (cs.drop 5) := fi_agg (by kernel_rfl) cs
@[go_sem] theorem T195f6p (k g off) : fieldAddrA Tryd.prog 195 6 (.ptr k g off) = some (.ptr k g (off + 6)) := fa_ptr (s := 0) (ft := 189) (by kernel_rfl) (by kernel_rfl) k g off
@[go_sem] theorem T195f6q (cs) : fieldAddrA Tryd.prog 195 6 (.fptr cs) = some (.fptr (cs.drop 6)) := fa_fptr (s := 0) (ft := 189) (by kernel_rfl) (by kernel_rfl) cs
@[go_sem] theorem T195f6v (cs) : fieldA Tryd.prog 195 6 (.agg cs) = takeT Tryd.prog 189 (cs.drop 6) := fi_agg (by kernel_rfl) cs
@[go_sem] theorem T195f7p (k g off) : fieldAddrA Tryd.prog 195 7 (.ptr k g off) = some (.ptr k g (off + 7)) := fa_ptr (s := 0) (ft := 190) (by kernel_rfl) (by kernel_rfl) k g off
@[go_sem] theorem T195f7q (cs) : fieldAddrA Tryd.prog 195 7 (.fptr cs) = some (.fptr (cs.drop 7)) := fa_fptr (s := 0) (ft := 190) (by kernel_rfl) (by kernel_rfl) cs
@[go_sem] theorem T195f7v (cs) : fieldA Tryd.prog 195 7 (.agg cs) = takeT Tryd.prog 190 (cs.drop 7) := fi_agg (by kernel_rfl) cs
@[go_sem] theorem T195f8p (k g off) : fieldAddrA Tryd.prog 195 8 (.ptr k g off) = some (.ptr k g (off + 8)) := fa_ptr (s := 0) (ft := 191) (by kernel_rfl) (by kernel_rfl) k g off
@[go_sem] theorem T195f8q (cs) : fieldAddrA Tryd.prog 195 8 (.fptr cs) = some (.fptr (cs.drop 8)) := fa_fptr (s := 0) (ft := 191) (by kernel_rfl) (by kernel_rfl) cs
@[go_sem] theorem T195f8v (cs) : fieldA Tryd.prog 195 8 (.agg cs) = takeT Tryd.prog 191 (cs.drop 8) := fi_agg (by kernel_rfl) cs
@[go_sem] theorem T195f9p (k g off) : fieldAddrA Tryd.prog 195 9 (.ptr k g off) = some (.ptr k g (off + 9)) := fa_ptr (s := 0) (ft := 192) (by kernel_rfl) (by kernel_rfl) k g off
@[go_sem] theorem T195f9q (cs) : fieldAddrA Tryd.prog 195 9 (.fptr cs) = some (.fptr (cs.drop 9)) := fa_fptr (s := 0) (ft := 192) (by kernel_rfl) (by kernel_rfl) cs
@[go_sem] theorem T195f9v (cs) : fieldA Tryd.prog 195 9 (.agg cs) = takeT Tryd.prog 192 (cs.drop 9) := fi_agg (by kernel_rfl) cs
@[go_sem] theorem T195f10p (k g off) : fieldAddrA Tryd.prog 195 10 (.ptr k g off) = some (.ptr k g (off + 10)) := fa_ptr (s := 0) (ft := 193) (by kernel_rfl) (by kernel_rfl) k g off
@[go_sem] theorem T195f10q (cs) : fieldAddrA Tryd.prog 195 10 (.fptr cs) = some (.fptr (cs.drop 10)) := fa_fptr (s := 0) (ft := 193) (by kernel_rfl) (by kernel_rfl) cs
@[go_sem] theorem T195f10v (cs) : fieldA Tryd.prog 195 10 (.agg cs) = takeT Tryd.prog 193 (cs.drop 10) := fi_agg (by kernel_rfl) cs
@[go_sem] theorem C2_3 (tg k n o nx) : aConvert Tryd.prog tg 2 3 (.int k n) ⟨o, nx⟩ = some (.int .i64 (IntKind.wrap .i64 n), ⟨o, nx⟩) := cv_int (td := .int .i64) (by kernel_rfl) (by kernel_rfl) tg k n o nx
@[go_sem] theorem C2_5 (tg k n o nx) : aConvert Tryd.prog tg 2 5 (.int k n) ⟨o, nx⟩ = some (.int .u8 (IntKind.wrap .u8 n), ⟨o, nx⟩) := cv_int (td := .int .i64) (by kernel_rfl) (by kernel_rfl) tg k n o nx
@[go_sem] theorem C2_39 (tg k n o nx) : aConvert Tryd.prog tg 2 39 (.int k n) ⟨o, nx⟩ = some (.int .i64 (IntKind.wrap .i64 n), ⟨o, nx⟩) := cv_int (td := .int .i64) (by kernel_rfl) (by kernel_rfl) tg k n o nx
@[go_sem] theorem C2_63 (tg k n o nx) : aConvert Tryd.prog tg 2 63 (.int k n) ⟨o, nx⟩ = some (.int .u64 (IntKind.wrap .u64 n), ⟨o, nx⟩) := cv_int (td := .int .i64) (by kernel_rfl) (by kernel_rfl) tg k n o nx
@[go_sem] theorem C2_169 (tg k n o nx) : aConvert Tryd.prog tg 2 169 (.int k n) ⟨o, nx⟩ = some (.int .u64 (IntKind.wrap .u64 n), ⟨o, nx⟩) := cv_int (td := .int .i64) (by kernel_rfl) (by kernel_rfl) tg k n o nx
@[go_sem] theorem C2_176 (tg k n o nx) : aConvert Tryd.prog tg 2 176 (.int k n) ⟨o, nx⟩ = some (.int .u32 (IntKind.wrap .u32 n), ⟨o, nx⟩) := cv_int (td := .int .i64) (by kernel_rfl) (by kernel_rfl) tg k n o nx
@[go_sem] theorem C3_2 (tg k n o nx) : aConvert Tryd.prog tg 3 2 (.int k n) ⟨o, nx⟩ = some (.int .i64 (IntKind.wrap .i64 n), ⟨o, nx⟩) := cv_int (td := .int .i64) (by kernel_rfl) (by kernel_rfl) tg k n o nx
@[go_sem] theorem C3_5 (tg k n o nx) : aConvert Tryd.prog tg 3 5 (.int k n) ⟨o, nx⟩ = some (.int .u8 (IntKind.wrap .u8 n), ⟨o, nx⟩) := cv_int (td := .int .i64) (by kernel_rfl) (by kernel_rfl) tg k n o nx
@[go_sem] theorem C3_39 (tg k n o nx) : aConvert Tryd.prog tg 3 39 (.int k n) ⟨o, nx⟩ = some (.int .i64 (IntKind.wrap .i64 n), ⟨o, nx⟩) := cv_int (td := .int .i64) (by kernel_rfl) (by kernel_rfl) tg k n o nx
@[go_sem] theorem C3_63 (tg k n o nx) : aConvert Tryd.prog tg 3 63 (.int k n) ⟨o, nx⟩ = some (.int .u64 (IntKind.wrap .u64 n), ⟨o, nx⟩) := cv_int (td := .int .i64) (by kernel_rfl) (by kernel_rfl) tg k n o nx
@[go_sem] theorem C3_169 (tg k n o nx) : aConvert Tryd.prog tg 3 169 (.int k n) ⟨o, nx⟩ = some (.int .u64 (IntKind.wrap .u64 n), ⟨o, nx⟩) := cv_int (td := .int .i64) (by kernel_rfl) (by kernel_rfl) tg k n o nx
@[go_sem] theorem C3_176 (tg k n o nx) : aConvert Tryd.prog tg 3 176 (.int k n) ⟨o, nx⟩ = some (.int .u32 (IntKind.wrap .u32 n), ⟨o, nx⟩) := cv_int (td := .int .i64) (by kernel_rfl) (by kernel_rfl) tg k n o nx
@[go_sem] theorem C5_2 (tg k n o nx) : aConvert Tryd.prog tg 5 2 (.int k n) ⟨o, nx⟩ = some (.int .i64 (IntKind.wrap .i64 n), ⟨o, nx⟩) := cv_int (td := .int .u8) (by kernel_rfl) (by kernel_rfl) tg k n o nx
@[go_sem] theorem C5_3 (tg k n o nx) : aConvert Tryd.prog tg 5 3 (.int k n) ⟨o, nx⟩ = some (.int .i64 (IntKind.wrap .i64 n), ⟨o, nx⟩) := cv_int (td := .int .u8) (by kernel_rfl) (by kernel_rfl) tg k n o nx
@[go_sem] theorem C5_39 (tg k n o nx) : aConvert Tryd.prog tg 5 39 (.int k n) ⟨o, nx⟩ = some (.int .i64 (IntKind.wrap .i64 n), ⟨o, nx⟩) := cv_int (td := .int .u8) (by kernel_rfl) (by kernel_rfl) tg k n o nx
@[go_sem] theorem C5_63 (tg k n o nx) : aConvert Tryd.prog tg 5 63 (.int k n) ⟨o, nx⟩ = some (.int .u64 (IntKind.wrap .u64 n), ⟨o, nx⟩) := cv_int (td := .int .u8) (by kernel_rfl) (by kernel_rfl) tg k n o nx
@[go_sem] theorem C5_169 (tg k n o nx) : aConvert Tryd.prog tg 5 169 (.int k n) ⟨o, nx⟩ = some (.int .u64 (IntKind.wrap .u64 n), ⟨o, nx⟩) := cv_int (td := .int .u8) (by kernel_rfl) (by kernel_rfl) tg k n o nx
@[go_sem] theorem C5_176 (tg k n o nx) : aConvert Tryd.prog tg 5 176 (.int k n) ⟨o, nx⟩ = some (.int .u32 (IntKind.wrap .u32 n), ⟨o, nx⟩) := cv_int (td := .int .u8) (by kernel_rfl) (by kernel_rfl) tg k n o nx
@[go_sem] theorem C39_2 (tg k n o nx) : aConvert Tryd.prog tg 39 2 (.int k n) ⟨o, nx⟩ = some (.int .i64 (IntKind.wrap .i64 n), ⟨o, nx⟩) := cv_int (td := .int .i64) (by kernel_rfl) (by kernel_rfl) tg k n o nx
@[go_sem] theorem C39_3 (tg k n o nx) : aConvert Tryd.prog tg 39 3 (.int k n) ⟨o, nx⟩ = some (.int .i64 (IntKind.wrap .i64 n), ⟨o, nx⟩) := cv_int (td := .int .i64) (by kernel_rfl) (by kernel_rfl) tg k n o nx
@[go_sem] theorem C39_5 (tg k n o nx) : aConvert Tryd.prog tg 39 5 (.int k n) ⟨o, nx⟩ = some (.int .u8 (IntKind.wrap .u8 n), ⟨o, nx⟩) := cv_int (td := .int .i64) (by kernel_rfl) (by kernel_rfl) tg k n o nx
@[go_sem] theorem C39_63 (tg k n o nx) : aConvert Tryd.prog tg 39 63 (.int k n) ⟨o, nx⟩ = some (.int .u64 (IntKind.wrap .u64 n), ⟨o, nx⟩) := cv_int (td := .int .i64) (by kernel_rfl) (by kernel_rfl) tg k n o nx
@[go_sem] theorem C39_169 (tg k n o nx) : aConvert Tryd.prog tg 39 169 (.int k n) ⟨o, nx⟩ = some (.int .u64 (IntKind.wrap .u64 n), ⟨o, nx⟩) := cv_int (td := .int .i64) (by kernel_rfl) (by kernel_rfl) tg k n o nx
@[go_sem] theorem C39_176 (tg k n o nx) : aConvert Tryd.prog tg 39 176 (.int k n) ⟨o, nx⟩ = some (.int .u32 (IntKind.wrap .u32 n), ⟨o, nx⟩) := cv_int (td := .int .i64) (by kernel_rfl) (by kernel_rfl) tg k n o nx
@[go_sem] theorem C63_2 (tg k n o nx) : aConvert Tryd.prog tg 63 2 (.int k n) ⟨o, nx⟩ = some (.int .i64 (IntKind.wrap .i64 n), ⟨o, nx⟩) := cv_int (td := .int .u64) (by kernel_rfl) (by kernel_rfl) tg k n o nx
@[go_sem] theorem C63_3 (tg k n o nx) : aConvert Tryd.prog tg 63 3 (.int k n) ⟨o, nx⟩ = some (.int .i64 (IntKind.wrap .i64 n), ⟨o, nx⟩) := cv_int (td := .int .u64) (by kernel_rfl) (by kernel_rfl) tg k n o nx
@[go_sem] theorem C63_5 (tg k n o nx) : aConvert Tryd.prog tg 63 5 (.int k n) ⟨o, nx⟩ = some (.int .u8 (IntKind.wrap .u8 n), ⟨o, nx⟩) := cv_int (td := .int .u64) (by kernel_rfl) (by kernel_rfl) tg k n o nx
@[go_sem] theorem C63_39 (tg k n o nx) : aConvert Tryd.prog tg 63 39 (.int k n) ⟨o, nx⟩ = some (.int .i64 (IntKind.wrap .i64 n), ⟨o, nx⟩) := cv_int (td := .int .u64) (by kernel_rfl) (by kernel_rfl) tg k n o nx
@[go_sem] theorem C63_169 (tg k n o nx) : aConvert Tryd.prog tg 63 169 (.int k n) ⟨o, nx⟩ = some (.int .u64 (IntKind.wrap .u64 n), ⟨o, nx⟩) := cv_int (td := .int .u64) (by kernel_rfl) (by kernel_rfl) tg k n o nx
@[go_sem] theorem C63_176 (tg k n o nx) : aConvert Tryd.prog tg 63 176 (.int k n) ⟨o, nx⟩ = some (.int .u32 (IntKind.wrap .u32 n), ⟨o, nx⟩) := cv_int (td := .int .u64) (by kernel_rfl) (by kernel_rfl) tg k n o nx
@[go_sem] theorem C169_2 (tg k n o nx) : aConvert Tryd.prog tg 169 2 (.int k n) ⟨o, nx⟩ = some (.int .i64 (IntKind.wrap .i64 n), ⟨o, nx⟩) := cv_int (td := .int .u64) (by kernel_rfl) (by kernel_rfl) tg k n o nx
@[go_sem] theorem C169_3 (tg k n o nx) : aConvert Tryd.prog tg 169 3 (.int k n) ⟨o, nx⟩ = some (.int .i64 (IntKind.wrap .i64 n), ⟨o, nx⟩) := cv_int (td := .int .u64) (by kernel_rfl) (by kernel_rfl) tg k n o nx
@[go_sem] theorem C169_5 (tg k n o nx) : aConvert Tryd.prog tg 169 5 (.int k n) ⟨o, nx⟩ = some (.int .u8 (IntKind.wrap .u8 n), ⟨o, nx⟩) := cv_int (td := .int .u64) (by kernel_rfl) (by kernel_rfl) tg k n o nx
@[go_sem] theorem C169_39 (tg k n o nx) : aConvert Tryd.prog tg 169 39 (.int k n) ⟨o, nx⟩ = some (.int .i64 (IntKind.wrap .i64 n), ⟨o, nx⟩) := cv_int (td := .int .u64) (by kernel_rfl) (by kernel_rfl) tg k n o nx
@[go_sem] theorem C169_63 (tg k n o nx) : aConvert Tryd.prog tg 169 63 (.int k n) ⟨o, nx⟩ = some (.int .u64 (IntKind.wrap .u64 n), ⟨o, nx⟩) := cv_int (td := .int .u64) (by kernel_rfl) (by kernel_rfl) tg k n o nx
@[go_sem] theorem C169_176 (tg k n o nx) : aConvert Tryd.prog tg 169 176 (.int k n) ⟨o, nx⟩ = some (.int .u32 (IntKind.wrap .u32 n), ⟨o, nx⟩) := cv_int (td := .int .u64) (by kernel_rfl) (by kernel_rfl) tg k n o nx
@[go_sem] theorem C176_2 (tg k n o nx) : aConvert Tryd.prog tg 176 2 (.int k n) ⟨o, nx⟩ = some (.int .i64 (IntKind.wrap .i64 n), ⟨o, nx⟩) := cv_int (td := .int .u32) (by kernel_rfl) (by kernel_rfl) tg k n o nx
@[go_sem] theorem C176_3 (tg k n o nx) : aConvert Tryd.prog tg 176 3 (.int k n) ⟨o, nx⟩ = some (.int .i64 (IntKind.wrap .i64 n), ⟨o, nx⟩) := cv_int (td := .int .u32) (by kernel_rfl) (by kernel_rfl) tg k n o nx
@[go_sem] theorem C176_5 (tg k n o nx) : aConvert Tryd.prog tg 176 5 (.int k n) ⟨o, nx⟩ = some (.int .u8 (IntKind.wrap .u8 n), ⟨o, nx⟩) := cv_int (td := .int .u32) (by kernel_rfl) (by kernel_rfl) tg k n o nx
@[go_sem] theorem C176_39 (tg k n o nx) : aConvert Tryd.prog tg 176 39 (.int k n) ⟨o, nx⟩ = some (.int .i64 (IntKind.wrap .i64 n), ⟨o, nx⟩) := cv_int (td := .int .u32) (by kernel_rfl) (by kernel_rfl) tg k n o nx
@[go_sem] theorem C176_63 (tg k n o nx) : aConvert Tryd.prog tg 176 63 (.int k n) ⟨o, nx⟩ = some (.int .u64 (IntKind.wrap .u64 n), ⟨o, nx⟩) := cv_int (td := .int .u32) (by kernel_rfl) (by kernel_rfl) tg k n o nx
@[go_sem] theorem C176_169 (tg k n o nx) : aConvert Tryd.prog tg 176 169 (.int k n) ⟨o, nx⟩ = some (.int .u64 (IntKind.wrap .u64 n), ⟨o, nx⟩) := cv_int (td := .int .u32) (by kernel_rfl) (by kernel_rfl) tg k n o nx
/-- How functions are called: on data, with a number or a truth value back; on data, with data back; on the caller's memory. -/
def md0 (f : FuncId) : Mode := if f ∈ [22, 43, 64, 56, 28, 35, 38, 21, 31, 32, 17, 14, 25, 95, 99, 101, 102, 103, 81, 30, 19, 27, 20, 85, 51, 52, 61, 71, 72, 87, 88, 86, 98, 48, 49, 36, 60, 62, 53] then .ext true else if f ∈ [23, 44, 65, 29, 46, 79, 96, 97, 54, 55, 82, 83, 84, 15, 45, 47, 24, 16, 33, 18, 26, 42, 63, 40, 41, 69, 75, 50, 34, 59, 37, 58] then .ext false else if f ∈ [] then .raw true else .raw false
@[go_sem] theorem M22 : md0 22 = .ext true := rfl
@[go_sem] theorem M23 : md0 23 = .ext false := rfl
@[go_sem] theorem M43 : md0 43 = .ext true := rfl
@[go_sem] theorem M64 : md0 64 = .ext true := rfl
@[go_sem] theorem M44 : md0 44 = .ext false := rfl
@[go_sem] theorem M65 : md0 65 = .ext false := rfl
@[go_sem] theorem M29 : md0 29 = .ext false := rfl
@[go_sem] theorem M56 : md0 56 = .ext true := rfl
@[go_sem] theorem M46 : md0 46 = .ext false := rfl
@[go_sem] theorem M79 : md0 79 = .ext false := rfl
@[go_sem] theorem M96 : md0 96 = .ext false := rfl
@[go_sem] theorem M97 : md0 97 = .ext false := rfl
@[go_sem] theorem M28 : md0 28 = .ext true := rfl
@[go_sem] theorem M54 : md0 54 = .ext false := rfl
@[go_sem] theorem M55 : md0 55 = .ext false := rfl
@[go_sem] theorem M82 : md0 82 = .ext false := rfl
@[go_sem] theorem M83 : md0 83 = .ext false := rfl
@[go_sem] theorem M84 : md0 84 = .ext false := rfl
@[go_sem] theorem M35 : md0 35 = .ext true := rfl
@[go_sem] theorem M38 : md0 38 = .ext true := rfl
@[go_sem] theorem M15 : md0 15 = .ext false := rfl
@[go_sem] theorem M21 : md0 21 = .ext true := rfl
@[go_sem] theorem M31 : md0 31 = .ext true := rfl
@[go_sem] theorem M32 : md0 32 = .ext true := rfl
@[go_sem] theorem M17 : md0 17 = .ext true := rfl
@[go_sem] theorem M76 : md0 76 = .raw false := rfl
@[go_sem] theorem M90 : md0 90 = .raw false := rfl
@[go_sem] theorem M91 : md0 91 = .raw false := rfl
@[go_sem] theorem M92 : md0 92 = .raw false := rfl
@[go_sem] theorem M77 : md0 77 = .raw false := rfl
@[go_sem] theorem M93 : md0 93 = .raw false := rfl
@[go_sem] theorem M94 : md0 94 = .raw false := rfl
@[go_sem] theorem M14 : md0 14 = .ext true := rfl
@[go_sem] theorem M45 : md0 45 = .ext false := rfl
@[go_sem] theorem M25 : md0 25 = .ext true := rfl
@[go_sem] theorem M47 : md0 47 = .ext false := rfl
@[go_sem] theorem M95 : md0 95 = .ext true := rfl
@[go_sem] theorem M99 : md0 99 = .ext true := rfl
@[go_sem] theorem M101 : md0 101 = .ext true := rfl
@[go_sem] theorem M102 : md0 102 = .ext true := rfl
@[go_sem] theorem M103 : md0 103 = .ext true := rfl
@[go_sem] theorem M78 : md0 78 = .raw false := rfl
@[go_sem] theorem M80 : md0 80 = .raw false := rfl
@[go_sem] theorem M81 : md0 81 = .ext true := rfl
@[go_sem] theorem M30 : md0 30 = .ext true := rfl
@[go_sem] theorem M24 : md0 24 = .ext false := rfl
@[go_sem] theorem M16 : md0 16 = .ext false := rfl
@[go_sem] theorem M19 : md0 19 = .ext true := rfl
@[go_sem] theorem M27 : md0 27 = .ext true := rfl
@[go_sem] theorem M33 : md0 33 = .ext false := rfl
@[go_sem] theorem M18 : md0 18 = .ext false := rfl
@[go_sem] theorem M20 : md0 20 = .ext true := rfl
@[go_sem] theorem M26 : md0 26 = .ext false := rfl
@[go_sem] theorem M42 : md0 42 = .ext false := rfl
@[go_sem] theorem M63 : md0 63 = .ext false := rfl
@[go_sem] theorem M85 : md0 85 = .ext true := rfl
@[go_sem] theorem M40 : md0 40 = .ext false := rfl
@[go_sem] theorem M41 : md0 41 = .ext false := rfl
@[go_sem] theorem M51 : md0 51 = .ext true := rfl
@[go_sem] theorem M52 : md0 52 = .ext true := rfl
@[go_sem] theorem M61 : md0 61 = .ext true := rfl
@[go_sem] theorem M69 : md0 69 = .ext false := rfl
@[go_sem] theorem M71 : md0 71 = .ext true := rfl
@[go_sem] theorem M75 : md0 75 = .ext false := rfl
@[go_sem] theorem M72 : md0 72 = .ext true := rfl
@[go_sem] theorem M87 : md0 87 = .ext true := rfl
@[go_sem] theorem M88 : md0 88 = .ext true := rfl
@[go_sem] theorem M86 : md0 86 = .ext true := rfl
@[go_sem] theorem M67 : md0 67 = .raw false := rfl
@[go_sem] theorem M68 : md0 68 = .raw false := rfl
@[go_sem] theorem M74 : md0 74 = .raw false := rfl
@[go_sem] theorem M89 : md0 89 = .raw false := rfl
@[go_sem] theorem M70 : md0 70 = .raw false := rfl
@[go_sem] theorem M73 : md0 73 = .raw false := rfl
@[go_sem] theorem M66 : md0 66 = .raw false := rfl
@[go_sem] theorem M98 : md0 98 = .ext true := rfl
@[go_sem] theorem M48 : md0 48 = .ext true := rfl
@[go_sem] theorem M49 : md0 49 = .ext true := rfl
@[go_sem] theorem M50 : md0 50 = .ext false := rfl
@[go_sem] theorem M34 : md0 34 = .ext false := rfl
@[go_sem] theorem M59 : md0 59 = .ext false := rfl
@[go_sem] theorem M36 : md0 36 = .ext true := rfl
@[go_sem] theorem M37 : md0 37 = .ext false := rfl
@[go_sem] theorem M39 : md0 39 = .raw false := rfl
@[go_sem] theorem M60 : md0 60 = .ext true := rfl
@[go_sem] theorem M62 : md0 62 = .ext true := rfl
@[go_sem] theorem M53 : md0 53 = .ext true := rfl
@[go_sem] theorem M57 : md0 57 = .raw false := rfl
@[go_sem] theorem M58 : md0 58 = .ext false := rfl
end Go.Proofs.YtpmjpogcaglphaaDoor.A
