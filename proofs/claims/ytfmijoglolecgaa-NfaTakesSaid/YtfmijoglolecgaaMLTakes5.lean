/- Facts on the types' table, on how functions are called. -/
import Derived.Test.YtfmijoglolecgaaMLTakes1
import Derived.Test.YtfmijoglolecgaaMLTakes2
import Derived.Test.YtfmijoglolecgaaMLTakes3
import Derived.Test.YtfmijoglolecgaaMLTakes4
set_option linter.unusedVariables false
set_option linter.unusedSimpArgs false
set_option linter.unnecessarySimpa false
namespace Go.Proofs.Ytfmijoglolecgaa.A
open Go
noncomputable def EX (md : FuncId → Mode) (X : FuncId → List AV → Option AV) : Env := ⟨Try.prog, md, X⟩
@[go_sem] theorem EX_P (md X) : (EX md X).P = Try.prog := rfl
@[go_sem] theorem EX_m (md X g) : (EX md X).mode g = md g := rfl
@[go_sem] theorem EX_x (md X g as_) : (EX md X).ext g as_ = X g as_ := rfl
@[go_sem] theorem T2s : tSize Try.prog 2 = some 1 := by kernel_rfl
@[go_sem] theorem T2a : tAgg Try.prog 2 = some false := by kernel_rfl
@[go_sem] theorem T2z : tZero Try.prog 2 = some [AV.int .i64 0] := by kernel_rfl
@[go_sem] theorem T2u : Try.prog.underlying 2 = some (.int .i64) := by kernel_rfl
@[go_sem] theorem T3s : tSize Try.prog 3 = some 1 := by kernel_rfl
@[go_sem] theorem T3a : tAgg Try.prog 3 = some false := by kernel_rfl
@[go_sem] theorem T3z : tZero Try.prog 3 = some [AV.int .i64 0] := by kernel_rfl
@[go_sem] theorem T3u : Try.prog.underlying 3 = some (.int .i64) := by kernel_rfl
@[go_sem] theorem T4s : tSize Try.prog 4 = some 1 := by kernel_rfl
@[go_sem] theorem T4a : tAgg Try.prog 4 = some false := by kernel_rfl
@[go_sem] theorem T4z : tZero Try.prog 4 = some [AV.bool false] := by kernel_rfl
@[go_sem] theorem T4eq (x y) : aBin Try.prog .eql 4 (.bool x) (.bool y) = some (.bool (x == y)) := aBin_beq (by kernel_rfl) x y
@[go_sem] theorem T4ne (x y) : aBin Try.prog .neq 4 (.bool x) (.bool y) = some (.bool (!(x == y))) := aBin_bne (by kernel_rfl) x y
@[go_sem] theorem T5s : tSize Try.prog 5 = some 1 := by kernel_rfl
@[go_sem] theorem T5a : tAgg Try.prog 5 = some false := by kernel_rfl
@[go_sem] theorem T5z : tZero Try.prog 5 = some [AV.int .u8 0] := by kernel_rfl
@[go_sem] theorem T5u : Try.prog.underlying 5 = some (.int .u8) := by kernel_rfl
@[go_sem] theorem T6s : tSize Try.prog 6 = some 1 := by kernel_rfl
@[go_sem] theorem T6a : tAgg Try.prog 6 = some false := by kernel_rfl
@[go_sem] theorem T6z : tZero Try.prog 6 = some [AV.int .u8 0] := by kernel_rfl
@[go_sem] theorem T6u : Try.prog.underlying 6 = some (.int .u8) := by kernel_rfl
@[go_sem] theorem T7s : tSize Try.prog 7 = some 4 := by kernel_rfl
@[go_sem] theorem T7a : tAgg Try.prog 7 = some true := by kernel_rfl
@[go_sem] theorem T7z : tZero Try.prog 7 = some [AV.int .i64 0, AV.int .i64 0, AV.bool false, AV.int .u8 0] := by kernel_rfl
@[go_sem] theorem T7f0p (k g off) : fieldAddrA Try.prog 7 0 (.ptr k g off) = some (.ptr k g (off + 0)) := fa_ptr (s := 0) (ft := 2) (by kernel_rfl) (by kernel_rfl) k g off
@[go_sem] theorem T7f0q (cs) : fieldAddrA Try.prog 7 0 (.fptr cs) = some (.fptr (cs.drop 0)) := fa_fptr (s := 0) (ft := 2) (by kernel_rfl) (by kernel_rfl) cs
@[go_sem] theorem T7f0v (cs) : fieldA Try.prog 7 0 (.agg cs) = takeT Try.prog 2 (cs.drop 0) := fi_agg (by kernel_rfl) cs
@[go_sem] theorem T7f1p (k g off) : fieldAddrA Try.prog 7 1 (.ptr k g off) = some (.ptr k g (off + 1)) := fa_ptr (s := 0) (ft := 3) (by kernel_rfl) (by kernel_rfl) k g off
@[go_sem] theorem T7f1q (cs) : fieldAddrA Try.prog 7 1 (.fptr cs) = some (.fptr (cs.drop 1)) := fa_fptr (s := 0) (ft := 3) (by kernel_rfl) (by kernel_rfl) cs
@[go_sem] theorem T7f1v (cs) : fieldA Try.prog 7 1 (.agg cs) = takeT Try.prog 3 (cs.drop 1) := fi_agg (by kernel_rfl) cs
@[go_sem] theorem T7f2p (k g off) : fieldAddrA Try.prog 7 2 (.ptr k g off) = some (.ptr k g (off + 2)) := fa_ptr (s := 0) (ft := 4) (by kernel_rfl) (by kernel_rfl) k g off
@[go_sem] theorem T7f2q (cs) : fieldAddrA Try.prog 7 2 (.fptr cs) = some (.fptr (cs.drop 2)) := fa_fptr (s := 0) (ft := 4) (by kernel_rfl) (by kernel_rfl) cs
@[go_sem] theorem T7f2v (cs) : fieldA Try.prog 7 2 (.agg cs) = takeT Try.prog 4 (cs.drop 2) := fi_agg (by kernel_rfl) cs
@[go_sem] theorem T7f3p (k g off) : fieldAddrA Try.prog 7 3 (.ptr k g off) = some (.ptr k g (off + 3)) := fa_ptr (s := 0) (ft := 6) (by kernel_rfl) (by kernel_rfl) k g off
@[go_sem] theorem T7f3q (cs) : fieldAddrA Try.prog 7 3 (.fptr cs) = some (.fptr (cs.drop 3)) := fa_fptr (s := 0) (ft := 6) (by kernel_rfl) (by kernel_rfl) cs
@[go_sem] theorem T7f3v (cs) : fieldA Try.prog 7 3 (.agg cs) = takeT Try.prog 6 (cs.drop 3) := fi_agg (by kernel_rfl) cs
@[go_sem] theorem T7bd (xs) : aBuild Try.prog 7 xs = (fillA (fun i => ([(0, 1), (1, 1), (2, 1), (3, 1)] : List (Nat × Nat))[i]?) [AV.int .i64 0, AV.int .i64 0, AV.bool false, AV.int .u8 0] xs).map .agg := by kernel_rfl
@[go_sem] theorem T7lf : eqLeaves Try.prog 7 = some [Leaf.int, Leaf.int, Leaf.bool, Leaf.int] := by kernel_rfl
@[go_sem] theorem T8s : tSize Try.prog 8 = some 4 := by kernel_rfl
@[go_sem] theorem T8a : tAgg Try.prog 8 = some true := by kernel_rfl
@[go_sem] theorem T8z : tZero Try.prog 8 = some [AV.int .i64 0, AV.int .i64 0, AV.bool false, AV.int .u8 0] := by kernel_rfl
@[go_sem] theorem T8f0p (k g off) : fieldAddrA Try.prog 8 0 (.ptr k g off) = some (.ptr k g (off + 0)) := fa_ptr (s := 0) (ft := 2) (by kernel_rfl) (by kernel_rfl) k g off
@[go_sem] theorem T8f0q (cs) : fieldAddrA Try.prog 8 0 (.fptr cs) = some (.fptr (cs.drop 0)) := fa_fptr (s := 0) (ft := 2) (by kernel_rfl) (by kernel_rfl) cs
@[go_sem] theorem T8f0v (cs) : fieldA Try.prog 8 0 (.agg cs) = takeT Try.prog 2 (cs.drop 0) := fi_agg (by kernel_rfl) cs
@[go_sem] theorem T8f1p (k g off) : fieldAddrA Try.prog 8 1 (.ptr k g off) = some (.ptr k g (off + 1)) := fa_ptr (s := 0) (ft := 3) (by kernel_rfl) (by kernel_rfl) k g off
@[go_sem] theorem T8f1q (cs) : fieldAddrA Try.prog 8 1 (.fptr cs) = some (.fptr (cs.drop 1)) := fa_fptr (s := 0) (ft := 3) (by kernel_rfl) (by kernel_rfl) cs
@[go_sem] theorem T8f1v (cs) : fieldA Try.prog 8 1 (.agg cs) = takeT Try.prog 3 (cs.drop 1) := fi_agg (by kernel_rfl) cs
@[go_sem] theorem T8f2p (k g off) : fieldAddrA Try.prog 8 2 (.ptr k g off) = some (.ptr k g (off + 2)) := fa_ptr (s := 0) (ft := 4) (by kernel_rfl) (by kernel_rfl) k g off
@[go_sem] theorem T8f2q (cs) : fieldAddrA Try.prog 8 2 (.fptr cs) = some (.fptr (cs.drop 2)) := fa_fptr (s := 0) (ft := 4) (by kernel_rfl) (by kernel_rfl) cs
@[go_sem] theorem T8f2v (cs) : fieldA Try.prog 8 2 (.agg cs) = takeT Try.prog 4 (cs.drop 2) := fi_agg (by kernel_rfl) cs
@[go_sem] theorem T8f3p (k g off) : fieldAddrA Try.prog 8 3 (.ptr k g off) = some (.ptr k g (off + 3)) := fa_ptr (s := 0) (ft := 6) (by kernel_rfl) (by kernel_rfl) k g off
@[go_sem] theorem T8f3q (cs) : fieldAddrA Try.prog 8 3 (.fptr cs) = some (.fptr (cs.drop 3)) := fa_fptr (s := 0) (ft := 6) (by kernel_rfl) (by kernel_rfl) cs
@[go_sem] theorem T8f3v (cs) : fieldA Try.prog 8 3 (.agg cs) = takeT Try.prog 6 (cs.drop 3) := fi_agg (by kernel_rfl) cs
@[go_sem] theorem T8bd (xs) : aBuild Try.prog 8 xs = (fillA (fun i => ([(0, 1), (1, 1), (2, 1), (3, 1)] : List (Nat × Nat))[i]?) [AV.int .i64 0, AV.int .i64 0, AV.bool false, AV.int .u8 0] xs).map .agg := by kernel_rfl
@[go_sem] theorem T8lf : eqLeaves Try.prog 8 = some [Leaf.int, Leaf.int, Leaf.bool, Leaf.int] := by kernel_rfl
@[go_sem] theorem T9s : tSize Try.prog 9 = some 1 := by kernel_rfl
@[go_sem] theorem T9a : tAgg Try.prog 9 = some false := by kernel_rfl
@[go_sem] theorem T9z : tZero Try.prog 9 = some [AV.str []] := by kernel_rfl
@[go_sem] theorem T9ix (x i) : aIndex Try.prog 9 (.str x) i = if 0 ≤ i then (x[i.toNat]?).map fun b => .int .u8 b.toNat else none := ixv_str (by kernel_rfl) x i
@[go_sem] theorem T9sl (x lo hi) : aSlice Try.prog 9 (.str x) lo hi = if 0 ≤ lo.getD 0 ∧ lo.getD 0 ≤ hi.getD x.length ∧ hi.getD x.length ≤ x.length then some (.str ((x.take (hi.getD x.length).toNat).drop (lo.getD 0).toNat)) else none := sl_str (by kernel_rfl) x lo hi
@[go_sem] theorem T9ln (o x) : aLen Try.prog o 9 (.str x) = some (.int .i64 x.length) := ln_str (by kernel_rfl) o x
@[go_sem] theorem T9u : Try.prog.underlying 9 = some .string := by kernel_rfl
@[go_sem] theorem T10s : tSize Try.prog 10 = some 1 := by kernel_rfl
@[go_sem] theorem T10a : tAgg Try.prog 10 = some false := by kernel_rfl
@[go_sem] theorem T10z : tZero Try.prog 10 = some [AV.str []] := by kernel_rfl
@[go_sem] theorem T10ix (x i) : aIndex Try.prog 10 (.str x) i = if 0 ≤ i then (x[i.toNat]?).map fun b => .int .u8 b.toNat else none := ixv_str (by kernel_rfl) x i
@[go_sem] theorem T10sl (x lo hi) : aSlice Try.prog 10 (.str x) lo hi = if 0 ≤ lo.getD 0 ∧ lo.getD 0 ≤ hi.getD x.length ∧ hi.getD x.length ≤ x.length then some (.str ((x.take (hi.getD x.length).toNat).drop (lo.getD 0).toNat)) else none := sl_str (by kernel_rfl) x lo hi
@[go_sem] theorem T10ln (o x) : aLen Try.prog o 10 (.str x) = some (.int .i64 x.length) := ln_str (by kernel_rfl) o x
@[go_sem] theorem T10u : Try.prog.underlying 10 = some .string := by kernel_rfl
@[go_sem] theorem T11s : tSize Try.prog 11 = some 1 := by kernel_rfl
@[go_sem] theorem T11a : tAgg Try.prog 11 = some false := by kernel_rfl
@[go_sem] theorem T11z : tZero Try.prog 11 = some [AV.str []] := by kernel_rfl
@[go_sem] theorem T11ix (x i) : aIndex Try.prog 11 (.str x) i = if 0 ≤ i then (x[i.toNat]?).map fun b => .int .u8 b.toNat else none := ixv_str (by kernel_rfl) x i
@[go_sem] theorem T11sl (x lo hi) : aSlice Try.prog 11 (.str x) lo hi = if 0 ≤ lo.getD 0 ∧ lo.getD 0 ≤ hi.getD x.length ∧ hi.getD x.length ≤ x.length then some (.str ((x.take (hi.getD x.length).toNat).drop (lo.getD 0).toNat)) else none := sl_str (by kernel_rfl) x lo hi
@[go_sem] theorem T11ln (o x) : aLen Try.prog o 11 (.str x) = some (.int .i64 x.length) := ln_str (by kernel_rfl) o x
@[go_sem] theorem T11u : Try.prog.underlying 11 = some .string := by kernel_rfl
@[go_sem] theorem T12s : tSize Try.prog 12 = some 1 := by kernel_rfl
@[go_sem] theorem T12a : tAgg Try.prog 12 = some false := by kernel_rfl
@[go_sem] theorem T12z : tZero Try.prog 12 = some [AV.int .u64 0] := by kernel_rfl
@[go_sem] theorem T12u : Try.prog.underlying 12 = some (.int .u64) := by kernel_rfl
@[go_sem] theorem T13s : tSize Try.prog 13 = some 2 := by kernel_rfl
@[go_sem] theorem T13a : tAgg Try.prog 13 = some true := by kernel_rfl
@[go_sem] theorem T13z : tZero Try.prog 13 = some [AV.str [], AV.int .u64 0] := by kernel_rfl
@[go_sem] theorem T13f0p (k g off) : fieldAddrA Try.prog 13 0 (.ptr k g off) = some (.ptr k g (off + 0)) := fa_ptr (s := 0) (ft := 9) (by kernel_rfl) (by kernel_rfl) k g off
@[go_sem] theorem T13f0q (cs) : fieldAddrA Try.prog 13 0 (.fptr cs) = some (.fptr (cs.drop 0)) := fa_fptr (s := 0) (ft := 9) (by kernel_rfl) (by kernel_rfl) cs
@[go_sem] theorem T13f0v (cs) : fieldA Try.prog 13 0 (.agg cs) = takeT Try.prog 9 (cs.drop 0) := fi_agg (by kernel_rfl) cs
@[go_sem] theorem T13f1p (k g off) : fieldAddrA Try.prog 13 1 (.ptr k g off) = some (.ptr k g (off + 1)) := fa_ptr (s := 0) (ft := 12) (by kernel_rfl) (by kernel_rfl) k g off
@[go_sem] theorem T13f1q (cs) : fieldAddrA Try.prog 13 1 (.fptr cs) = some (.fptr (cs.drop 1)) := fa_fptr (s := 0) (ft := 12) (by kernel_rfl) (by kernel_rfl) cs
@[go_sem] theorem T13f1v (cs) : fieldA Try.prog 13 1 (.agg cs) = takeT Try.prog 12 (cs.drop 1) := fi_agg (by kernel_rfl) cs
@[go_sem] theorem T13bd (xs) : aBuild Try.prog 13 xs = (fillA (fun i => ([(0, 1), (1, 1)] : List (Nat × Nat))[i]?) [AV.str [], AV.int .u64 0] xs).map .agg := by kernel_rfl
@[go_sem] theorem T14s : tSize Try.prog 14 = some 2 := by kernel_rfl
@[go_sem] theorem T14a : tAgg Try.prog 14 = some true := by kernel_rfl
@[go_sem] theorem T14z : tZero Try.prog 14 = some [AV.str [], AV.int .u64 0] := by kernel_rfl
@[go_sem] theorem T14f0p (k g off) : fieldAddrA Try.prog 14 0 (.ptr k g off) = some (.ptr k g (off + 0)) := fa_ptr (s := 0) (ft := 9) (by kernel_rfl) (by kernel_rfl) k g off
@[go_sem] theorem T14f0q (cs) : fieldAddrA Try.prog 14 0 (.fptr cs) = some (.fptr (cs.drop 0)) := fa_fptr (s := 0) (ft := 9) (by kernel_rfl) (by kernel_rfl) cs
@[go_sem] theorem T14f0v (cs) : fieldA Try.prog 14 0 (.agg cs) = takeT Try.prog 9 (cs.drop 0) := fi_agg (by kernel_rfl) cs
@[go_sem] theorem T14f1p (k g off) : fieldAddrA Try.prog 14 1 (.ptr k g off) = some (.ptr k g (off + 1)) := fa_ptr (s := 0) (ft := 12) (by kernel_rfl) (by kernel_rfl) k g off
@[go_sem] theorem T14f1q (cs) : fieldAddrA Try.prog 14 1 (.fptr cs) = some (.fptr (cs.drop 1)) := fa_fptr (s := 0) (ft := 12) (by kernel_rfl) (by kernel_rfl) cs
@[go_sem] theorem T14f1v (cs) : fieldA Try.prog 14 1 (.agg cs) = takeT Try.prog 12 (cs.drop 1) := fi_agg (by kernel_rfl) cs
@[go_sem] theorem T14bd (xs) : aBuild Try.prog 14 xs = (fillA (fun i => ([(0, 1), (1, 1)] : List (Nat × Nat))[i]?) [AV.str [], AV.int .u64 0] xs).map .agg := by kernel_rfl
@[go_sem] theorem T15s : tSize Try.prog 15 = some 1 := by kernel_rfl
@[go_sem] theorem T15a : tAgg Try.prog 15 = some false := by kernel_rfl
@[go_sem] theorem T15z : tZero Try.prog 15 = some [AV.nilp] := by kernel_rfl
@[go_sem] theorem T16s : tSize Try.prog 16 = some 1 := by kernel_rfl
@[go_sem] theorem T16a : tAgg Try.prog 16 = some false := by kernel_rfl
@[go_sem] theorem T16z : tZero Try.prog 16 = some [AV.nilp] := by kernel_rfl
@[go_sem] theorem T17s : tSize Try.prog 17 = some 1 := by kernel_rfl
@[go_sem] theorem T17a : tAgg Try.prog 17 = some false := by kernel_rfl
@[go_sem] theorem T17z : tZero Try.prog 17 = some [AV.nilp] := by kernel_rfl
@[go_sem] theorem T18s : tSize Try.prog 18 = some 1 := by kernel_rfl
@[go_sem] theorem T18a : tAgg Try.prog 18 = some true := by kernel_rfl
@[go_sem] theorem T18z : tZero Try.prog 18 = some [AV.nilp] := by kernel_rfl
@[go_sem] theorem T18f0p (k g off) : fieldAddrA Try.prog 18 0 (.ptr k g off) = some (.ptr k g (off + 0)) := fa_ptr (s := 0) (ft := 17) (by kernel_rfl) (by kernel_rfl) k g off
@[go_sem] theorem T18f0q (cs) : fieldAddrA Try.prog 18 0 (.fptr cs) = some (.fptr (cs.drop 0)) := fa_fptr (s := 0) (ft := 17) (by kernel_rfl) (by kernel_rfl) cs
@[go_sem] theorem T18f0v (cs) : fieldA Try.prog 18 0 (.agg cs) = takeT Try.prog 17 (cs.drop 0) := fi_agg (by kernel_rfl) cs
@[go_sem] theorem T18bd (xs) : aBuild Try.prog 18 xs = (fillA (fun i => ([(0, 1)] : List (Nat × Nat))[i]?) [AV.nilp] xs).map .agg := by kernel_rfl
@[go_sem] theorem T19s : tSize Try.prog 19 = some 1 := by kernel_rfl
@[go_sem] theorem T19a : tAgg Try.prog 19 = some true := by kernel_rfl
@[go_sem] theorem T19z : tZero Try.prog 19 = some [AV.nilp] := by kernel_rfl
@[go_sem] theorem T19f0p (k g off) : fieldAddrA Try.prog 19 0 (.ptr k g off) = some (.ptr k g (off + 0)) := fa_ptr (s := 0) (ft := 17) (by kernel_rfl) (by kernel_rfl) k g off
@[go_sem] theorem T19f0q (cs) : fieldAddrA Try.prog 19 0 (.fptr cs) = some (.fptr (cs.drop 0)) := fa_fptr (s := 0) (ft := 17) (by kernel_rfl) (by kernel_rfl) cs
@[go_sem] theorem T19f0v (cs) : fieldA Try.prog 19 0 (.agg cs) = takeT Try.prog 17 (cs.drop 0) := fi_agg (by kernel_rfl) cs
@[go_sem] theorem T19bd (xs) : aBuild Try.prog 19 xs = (fillA (fun i => ([(0, 1)] : List (Nat × Nat))[i]?) [AV.nilp] xs).map .agg := by kernel_rfl
@[go_sem] theorem T21s : tSize Try.prog 21 = some 1 := by kernel_rfl
@[go_sem] theorem T21a : tAgg Try.prog 21 = some false := by kernel_rfl
@[go_sem] theorem T21z : tZero Try.prog 21 = some [AV.int .i32 0] := by kernel_rfl
@[go_sem] theorem T21u : Try.prog.underlying 21 = some (.int .i32) := by kernel_rfl
@[go_sem] theorem T22s : tSize Try.prog 22 = some 1 := by kernel_rfl
@[go_sem] theorem T22a : tAgg Try.prog 22 = some false := by kernel_rfl
@[go_sem] theorem T22z : tZero Try.prog 22 = some [AV.nil] := by kernel_rfl
@[go_sem] theorem T22ln0 (o) : aLen Try.prog o 22 .nil = some (.int .i64 0) := ln_nil (e := 45) (by kernel_rfl) o
@[go_sem] theorem T22ln1 (o n cs) : aLen Try.prog o 22 (.sl n cs) = some (.int .i64 n) := ln_sl (e := 45) (by kernel_rfl) o n cs
@[go_sem] theorem T22ln2 (o k g off n) : aLen Try.prog o 22 (.ref k g off n) = some (.int .i64 n) := ln_ref (e := 45) (by kernel_rfl) o k g off n
@[go_sem] theorem T22ix1 (n cs i) : aIndexAddr Try.prog 22 (.sl n cs) i = if 0 ≤ i ∧ i < (n : Int) then some (.fptr (cs.drop (i.toNat * 3))) else none := ixs_sl (s := 3) (by kernel_rfl) n cs i
@[go_sem] theorem T22ix2 (k g off n i) : aIndexAddr Try.prog 22 (.ref k g off n) i = if 0 ≤ i ∧ i < (n : Int) then some (.ptr k g (off + i.toNat * 3)) else none := ixs_ref (s := 3) (by kernel_rfl) k g off n i
@[go_sem] theorem T22sl1 (n cs lo hi) : aSlice Try.prog 22 (.sl n cs) lo hi = if 0 ≤ lo.getD 0 ∧ lo.getD 0 ≤ hi.getD n ∧ hi.getD n ≤ n then some (.sl ((hi.getD n).toNat - (lo.getD 0).toNat) ((cs.take ((hi.getD n).toNat * 3)).drop ((lo.getD 0).toNat * 3))) else none := sl_sl (s := 3) (by kernel_rfl) n cs lo hi
@[go_sem] theorem T22sl2 (k g off n lo hi) : aSlice Try.prog 22 (.ref k g off n) lo hi = if 0 ≤ lo.getD 0 ∧ lo.getD 0 ≤ hi.getD n ∧ hi.getD n ≤ n then some (.ref k g (off + (lo.getD 0).toNat * 3) ((hi.getD n).toNat - (lo.getD 0).toNat)) else none := sl_ref (s := 2) (by kernel_rfl) k g off n lo hi
@[go_sem] theorem T22cp (k g off n x o nx) : aCopy Try.prog 22 (.ref k g off n) x ⟨o, nx⟩ = (srcOf o x).bind fun q => (rowIf (o k) g).bind (copyR k off n 3 q.1 q.2 o nx) := cp_ref (by kernel_rfl) k g off n x o nx
@[go_sem] theorem T22ms (tg l c o nx) : aMakeSlice Try.prog tg 22 l c ⟨o, nx⟩ = if 0 ≤ l ∧ l ≤ c ∧ c * 40 ≤ maxB ∧ c ≤ maxB then some (.ref tg tg 0 l.toNat, ⟨upd o tg (.row ⟨45, 3, tg, false, true, rep [AV.int .i64 0, AV.int .i64 0, AV.nil] l.toNat⟩), nx⟩) else none := ms_eq (e := 45) (s := 2) (b := 40) (z := [AV.int .i64 0, AV.int .i64 0, AV.nil]) (by kernel_rfl) (by kernel_rfl) (by kernel_rfl) (by kernel_rfl) rfl tg l c o nx
@[go_sem] theorem T22bs (tg n ps o nx) : aBuildSlice Try.prog tg 22 n ps ⟨o, nx⟩ = if n * 3 ≤ 16777216 then (fillA (fun i => some (i * 3, 3)) (rep [AV.int .i64 0, AV.int .i64 0, AV.nil] n) ps).map (fun cs => (.ref tg tg 0 n, ⟨upd o tg (.row ⟨45, 3, tg, false, true, cs⟩), nx⟩)) else none := bs_eq (e := 45) (s := 2) (z := [AV.int .i64 0, AV.int .i64 0, AV.nil]) (by kernel_rfl) (by kernel_rfl) (by kernel_rfl) rfl tg n ps o nx
@[go_sem] theorem T22ap (tg x y o nx) : aAppend Try.prog tg 22 22 x y ⟨o, nx⟩ = (srcOf o y).bind fun q => appW tg 45 3 40 x q.1 q.2 o nx := ap_eq (e := 45) (s := 2) (b := 39) (z := [AV.int .i64 0, AV.int .i64 0, AV.nil]) (by kernel_rfl) (by kernel_rfl) (by kernel_rfl) (by kernel_rfl) rfl (by kernel_rfl) tg x y o nx
@[go_sem] theorem T23s : tSize Try.prog 23 = some 1 := by kernel_rfl
@[go_sem] theorem T23a : tAgg Try.prog 23 = some false := by kernel_rfl
@[go_sem] theorem T23z : tZero Try.prog 23 = some [AV.nil] := by kernel_rfl
@[go_sem] theorem T23ln0 (o) : aLen Try.prog o 23 .nil = some (.int .i64 0) := ln_nil (e := 3) (by kernel_rfl) o
@[go_sem] theorem T23ln1 (o n cs) : aLen Try.prog o 23 (.sl n cs) = some (.int .i64 n) := ln_sl (e := 3) (by kernel_rfl) o n cs
@[go_sem] theorem T23ln2 (o k g off n) : aLen Try.prog o 23 (.ref k g off n) = some (.int .i64 n) := ln_ref (e := 3) (by kernel_rfl) o k g off n
@[go_sem] theorem T23ix1 (n cs i) : aIndexAddr Try.prog 23 (.sl n cs) i = if 0 ≤ i ∧ i < (n : Int) then some (.fptr (cs.drop (i.toNat * 1))) else none := ixs_sl (s := 1) (by kernel_rfl) n cs i
@[go_sem] theorem T23ix2 (k g off n i) : aIndexAddr Try.prog 23 (.ref k g off n) i = if 0 ≤ i ∧ i < (n : Int) then some (.ptr k g (off + i.toNat * 1)) else none := ixs_ref (s := 1) (by kernel_rfl) k g off n i
@[go_sem] theorem T23sl1 (n cs lo hi) : aSlice Try.prog 23 (.sl n cs) lo hi = if 0 ≤ lo.getD 0 ∧ lo.getD 0 ≤ hi.getD n ∧ hi.getD n ≤ n then some (.sl ((hi.getD n).toNat - (lo.getD 0).toNat) ((cs.take ((hi.getD n).toNat * 1)).drop ((lo.getD 0).toNat * 1))) else none := sl_sl (s := 1) (by kernel_rfl) n cs lo hi
@[go_sem] theorem T23sl2 (k g off n lo hi) : aSlice Try.prog 23 (.ref k g off n) lo hi = if 0 ≤ lo.getD 0 ∧ lo.getD 0 ≤ hi.getD n ∧ hi.getD n ≤ n then some (.ref k g (off + (lo.getD 0).toNat * 1) ((hi.getD n).toNat - (lo.getD 0).toNat)) else none := sl_ref (s := 0) (by kernel_rfl) k g off n lo hi
@[go_sem] theorem T23cp (k g off n x o nx) : aCopy Try.prog 23 (.ref k g off n) x ⟨o, nx⟩ = (srcOf o x).bind fun q => (rowIf (o k) g).bind (copyR k off n 1 q.1 q.2 o nx) := cp_ref (by kernel_rfl) k g off n x o nx
@[go_sem] theorem T23ms (tg l c o nx) : aMakeSlice Try.prog tg 23 l c ⟨o, nx⟩ = if 0 ≤ l ∧ l ≤ c ∧ c * 8 ≤ maxB ∧ c ≤ maxB then some (.ref tg tg 0 l.toNat, ⟨upd o tg (.row ⟨3, 1, tg, false, true, rep [AV.int .i64 0] l.toNat⟩), nx⟩) else none := ms_eq (e := 3) (s := 0) (b := 8) (z := [AV.int .i64 0]) (by kernel_rfl) (by kernel_rfl) (by kernel_rfl) (by kernel_rfl) rfl tg l c o nx
@[go_sem] theorem T23bs (tg n ps o nx) : aBuildSlice Try.prog tg 23 n ps ⟨o, nx⟩ = if n * 1 ≤ 16777216 then (fillA (fun i => some (i * 1, 1)) (rep [AV.int .i64 0] n) ps).map (fun cs => (.ref tg tg 0 n, ⟨upd o tg (.row ⟨3, 1, tg, false, true, cs⟩), nx⟩)) else none := bs_eq (e := 3) (s := 0) (z := [AV.int .i64 0]) (by kernel_rfl) (by kernel_rfl) (by kernel_rfl) rfl tg n ps o nx
@[go_sem] theorem T23ap (tg x y o nx) : aAppend Try.prog tg 23 23 x y ⟨o, nx⟩ = (srcOf o y).bind fun q => appW tg 3 1 8 x q.1 q.2 o nx := ap_eq (e := 3) (s := 0) (b := 7) (z := [AV.int .i64 0]) (by kernel_rfl) (by kernel_rfl) (by kernel_rfl) (by kernel_rfl) rfl (by kernel_rfl) tg x y o nx
@[go_sem] theorem T26s : tSize Try.prog 26 = some 1 := by kernel_rfl
@[go_sem] theorem T26a : tAgg Try.prog 26 = some false := by kernel_rfl
@[go_sem] theorem T26z : tZero Try.prog 26 = some [AV.nil] := by kernel_rfl
@[go_sem] theorem T26ln0 (o) : aLen Try.prog o 26 .nil = some (.int .i64 0) := ln_nil (e := 28) (by kernel_rfl) o
@[go_sem] theorem T26ln1 (o n cs) : aLen Try.prog o 26 (.sl n cs) = some (.int .i64 n) := ln_sl (e := 28) (by kernel_rfl) o n cs
@[go_sem] theorem T26ln2 (o k g off n) : aLen Try.prog o 26 (.ref k g off n) = some (.int .i64 n) := ln_ref (e := 28) (by kernel_rfl) o k g off n
@[go_sem] theorem T26ix1 (n cs i) : aIndexAddr Try.prog 26 (.sl n cs) i = if 0 ≤ i ∧ i < (n : Int) then some (.fptr (cs.drop (i.toNat * 5))) else none := ixs_sl (s := 5) (by kernel_rfl) n cs i
@[go_sem] theorem T26ix2 (k g off n i) : aIndexAddr Try.prog 26 (.ref k g off n) i = if 0 ≤ i ∧ i < (n : Int) then some (.ptr k g (off + i.toNat * 5)) else none := ixs_ref (s := 5) (by kernel_rfl) k g off n i
@[go_sem] theorem T26sl1 (n cs lo hi) : aSlice Try.prog 26 (.sl n cs) lo hi = if 0 ≤ lo.getD 0 ∧ lo.getD 0 ≤ hi.getD n ∧ hi.getD n ≤ n then some (.sl ((hi.getD n).toNat - (lo.getD 0).toNat) ((cs.take ((hi.getD n).toNat * 5)).drop ((lo.getD 0).toNat * 5))) else none := sl_sl (s := 5) (by kernel_rfl) n cs lo hi
@[go_sem] theorem T26sl2 (k g off n lo hi) : aSlice Try.prog 26 (.ref k g off n) lo hi = if 0 ≤ lo.getD 0 ∧ lo.getD 0 ≤ hi.getD n ∧ hi.getD n ≤ n then some (.ref k g (off + (lo.getD 0).toNat * 5) ((hi.getD n).toNat - (lo.getD 0).toNat)) else none := sl_ref (s := 4) (by kernel_rfl) k g off n lo hi
@[go_sem] theorem T26cp (k g off n x o nx) : aCopy Try.prog 26 (.ref k g off n) x ⟨o, nx⟩ = (srcOf o x).bind fun q => (rowIf (o k) g).bind (copyR k off n 5 q.1 q.2 o nx) := cp_ref (by kernel_rfl) k g off n x o nx
@[go_sem] theorem T26ms (tg l c o nx) : aMakeSlice Try.prog tg 26 l c ⟨o, nx⟩ = if 0 ≤ l ∧ l ≤ c ∧ c * 56 ≤ maxB ∧ c ≤ maxB then some (.ref tg tg 0 l.toNat, ⟨upd o tg (.row ⟨28, 5, tg, false, true, rep [AV.int .i64 0, AV.int .i64 0, AV.int .i64 0, AV.int .i64 0, AV.nil] l.toNat⟩), nx⟩) else none := ms_eq (e := 28) (s := 4) (b := 56) (z := [AV.int .i64 0, AV.int .i64 0, AV.int .i64 0, AV.int .i64 0, AV.nil]) (by kernel_rfl) (by kernel_rfl) (by kernel_rfl) (by kernel_rfl) rfl tg l c o nx
@[go_sem] theorem T26bs (tg n ps o nx) : aBuildSlice Try.prog tg 26 n ps ⟨o, nx⟩ = if n * 5 ≤ 16777216 then (fillA (fun i => some (i * 5, 5)) (rep [AV.int .i64 0, AV.int .i64 0, AV.int .i64 0, AV.int .i64 0, AV.nil] n) ps).map (fun cs => (.ref tg tg 0 n, ⟨upd o tg (.row ⟨28, 5, tg, false, true, cs⟩), nx⟩)) else none := bs_eq (e := 28) (s := 4) (z := [AV.int .i64 0, AV.int .i64 0, AV.int .i64 0, AV.int .i64 0, AV.nil]) (by kernel_rfl) (by kernel_rfl) (by kernel_rfl) rfl tg n ps o nx
@[go_sem] theorem T26ap (tg x y o nx) : aAppend Try.prog tg 26 26 x y ⟨o, nx⟩ = (srcOf o y).bind fun q => appW tg 28 5 56 x q.1 q.2 o nx := ap_eq (e := 28) (s := 4) (b := 55) (z := [AV.int .i64 0, AV.int .i64 0, AV.int .i64 0, AV.int .i64 0, AV.nil]) (by kernel_rfl) (by kernel_rfl) (by kernel_rfl) (by kernel_rfl) rfl (by kernel_rfl) tg x y o nx
@[go_sem] theorem T27s : tSize Try.prog 27 = some 5 := by kernel_rfl
@[go_sem] theorem T27a : tAgg Try.prog 27 = some true := by kernel_rfl
@[go_sem] theorem T27z : tZero Try.prog 27 = some [AV.int .i64 0, AV.int .i64 0, AV.int .i64 0, AV.int .i64 0, AV.nil] := by kernel_rfl
@[go_sem] theorem T27f0p (k g off) : fieldAddrA Try.prog 27 0 (.ptr k g off) = some (.ptr k g (off + 0)) := fa_ptr (s := 0) (ft := 3) (by kernel_rfl) (by kernel_rfl) k g off
@[go_sem] theorem T27f0q (cs) : fieldAddrA Try.prog 27 0 (.fptr cs) = some (.fptr (cs.drop 0)) := fa_fptr (s := 0) (ft := 3) (by kernel_rfl) (by kernel_rfl) cs
@[go_sem] theorem T27f0v (cs) : fieldA Try.prog 27 0 (.agg cs) = takeT Try.prog 3 (cs.drop 0) := fi_agg (by kernel_rfl) cs
@[go_sem] theorem T27f1p (k g off) : fieldAddrA Try.prog 27 1 (.ptr k g off) = some (.ptr k g (off + 1)) := fa_ptr (s := 0) (ft := 3) (by kernel_rfl) (by kernel_rfl) k g off
@[go_sem] theorem T27f1q (cs) : fieldAddrA Try.prog 27 1 (.fptr cs) = some (.fptr (cs.drop 1)) := fa_fptr (s := 0) (ft := 3) (by kernel_rfl) (by kernel_rfl) cs
@[go_sem] theorem T27f1v (cs) : fieldA Try.prog 27 1 (.agg cs) = takeT Try.prog 3 (cs.drop 1) := fi_agg (by kernel_rfl) cs
@[go_sem] theorem T27f2p (k g off) : fieldAddrA Try.prog 27 2 (.ptr k g off) = some (.ptr k g (off + 2)) := fa_ptr (s := 0) (ft := 3) (by kernel_rfl) (by kernel_rfl) k g off
@[go_sem] theorem T27f2q (cs) : fieldAddrA Try.prog 27 2 (.fptr cs) = some (.fptr (cs.drop 2)) := fa_fptr (s := 0) (ft := 3) (by kernel_rfl) (by kernel_rfl) cs
@[go_sem] theorem T27f2v (cs) : fieldA Try.prog 27 2 (.agg cs) = takeT Try.prog 3 (cs.drop 2) := fi_agg (by kernel_rfl) cs
@[go_sem] theorem T27f3p (k g off) : fieldAddrA Try.prog 27 3 (.ptr k g off) = some (.ptr k g (off + 3)) := fa_ptr (s := 0) (ft := 3) (by kernel_rfl) (by kernel_rfl) k g off
@[go_sem] theorem T27f3q (cs) : fieldAddrA Try.prog 27 3 (.fptr cs) = some (.fptr (cs.drop 3)) := fa_fptr (s := 0) (ft := 3) (by kernel_rfl) (by kernel_rfl) cs
@[go_sem] theorem T27f3v (cs) : fieldA Try.prog 27 3 (.agg cs) = takeT Try.prog 3 (cs.drop 3) := fi_agg (by kernel_rfl) cs
@[go_sem] theorem T27f4p (k g off) : fieldAddrA Try.prog 27 4 (.ptr k g off) = some (.ptr k g (off + 4)) := fa_ptr (s := 0) (ft := 26) (by kernel_rfl) (by kernel_rfl) k g off
@[go_sem] theorem T27f4q (cs) : fieldAddrA Try.prog 27 4 (.fptr cs) = some (.fptr (cs.drop 4)) := fa_fptr (s := 0) (ft := 26) (by kernel_rfl) (by kernel_rfl) cs
@[go_sem] theorem T27f4v (cs) : fieldA Try.prog 27 4 (.agg cs) = takeT Try.prog 26 (cs.drop 4) := fi_agg (by kernel_rfl) cs
@[go_sem] theorem T27bd (xs) : aBuild Try.prog 27 xs = (fillA (fun i => ([(0, 1), (1, 1), (2, 1), (3, 1), (4, 1)] : List (Nat × Nat))[i]?) [AV.int .i64 0, AV.int .i64 0, AV.int .i64 0, AV.int .i64 0, AV.nil] xs).map .agg := by kernel_rfl
@[go_sem] theorem T28s : tSize Try.prog 28 = some 5 := by kernel_rfl
@[go_sem] theorem T28a : tAgg Try.prog 28 = some true := by kernel_rfl
@[go_sem] theorem T28z : tZero Try.prog 28 = some [AV.int .i64 0, AV.int .i64 0, AV.int .i64 0, AV.int .i64 0, AV.nil] := by kernel_rfl
@[go_sem] theorem T28f0p (k g off) : fieldAddrA Try.prog 28 0 (.ptr k g off) = some (.ptr k g (off + 0)) := fa_ptr (s := 0) (ft := 3) (by kernel_rfl) (by kernel_rfl) k g off
@[go_sem] theorem T28f0q (cs) : fieldAddrA Try.prog 28 0 (.fptr cs) = some (.fptr (cs.drop 0)) := fa_fptr (s := 0) (ft := 3) (by kernel_rfl) (by kernel_rfl) cs
@[go_sem] theorem T28f0v (cs) : fieldA Try.prog 28 0 (.agg cs) = takeT Try.prog 3 (cs.drop 0) := fi_agg (by kernel_rfl) cs
@[go_sem] theorem T28f1p (k g off) : fieldAddrA Try.prog 28 1 (.ptr k g off) = some (.ptr k g (off + 1)) := fa_ptr (s := 0) (ft := 3) (by kernel_rfl) (by kernel_rfl) k g off
@[go_sem] theorem T28f1q (cs) : fieldAddrA Try.prog 28 1 (.fptr cs) = some (.fptr (cs.drop 1)) := fa_fptr (s := 0) (ft := 3) (by kernel_rfl) (by kernel_rfl) cs
@[go_sem] theorem T28f1v (cs) : fieldA Try.prog 28 1 (.agg cs) = takeT Try.prog 3 (cs.drop 1) := fi_agg (by kernel_rfl) cs
@[go_sem] theorem T28f2p (k g off) : fieldAddrA Try.prog 28 2 (.ptr k g off) = some (.ptr k g (off + 2)) := fa_ptr (s := 0) (ft := 3) (by kernel_rfl) (by kernel_rfl) k g off
@[go_sem] theorem T28f2q (cs) : fieldAddrA Try.prog 28 2 (.fptr cs) = some (.fptr (cs.drop 2)) := fa_fptr (s := 0) (ft := 3) (by kernel_rfl) (by kernel_rfl) cs
@[go_sem] theorem T28f2v (cs) : fieldA Try.prog 28 2 (.agg cs) = takeT Try.prog 3 (cs.drop 2) := fi_agg (by kernel_rfl) cs
@[go_sem] theorem T28f3p (k g off) : fieldAddrA Try.prog 28 3 (.ptr k g off) = some (.ptr k g (off + 3)) := fa_ptr (s := 0) (ft := 3) (by kernel_rfl) (by kernel_rfl) k g off
@[go_sem] theorem T28f3q (cs) : fieldAddrA Try.prog 28 3 (.fptr cs) = some (.fptr (cs.drop 3)) := fa_fptr (s := 0) (ft := 3) (by kernel_rfl) (by kernel_rfl) cs
@[go_sem] theorem T28f3v (cs) : fieldA Try.prog 28 3 (.agg cs) = takeT Try.prog 3 (cs.drop 3) := fi_agg (by kernel_rfl) cs
@[go_sem] theorem T28f4p (k g off) : fieldAddrA Try.prog 28 4 (.ptr k g off) = some (.ptr k g (off + 4)) := fa_ptr (s := 0) (ft := 26) (by kernel_rfl) (by kernel_rfl) k g off
@[go_sem] theorem T28f4q (cs) : fieldAddrA Try.prog 28 4 (.fptr cs) = some (.fptr (cs.drop 4)) := fa_fptr (s := 0) (ft := 26) (by kernel_rfl) (by kernel_rfl) cs
@[go_sem] theorem T28f4v (cs) : fieldA Try.prog 28 4 (.agg cs) = takeT Try.prog 26 (cs.drop 4) := fi_agg (by kernel_rfl) cs
@[go_sem] theorem T28bd (xs) : aBuild Try.prog 28 xs = (fillA (fun i => ([(0, 1), (1, 1), (2, 1), (3, 1), (4, 1)] : List (Nat × Nat))[i]?) [AV.int .i64 0, AV.int .i64 0, AV.int .i64 0, AV.int .i64 0, AV.nil] xs).map .agg := by kernel_rfl
@[go_sem] theorem T30s : tSize Try.prog 30 = some 1 := by kernel_rfl
@[go_sem] theorem T30a : tAgg Try.prog 30 = some false := by kernel_rfl
@[go_sem] theorem T30z : tZero Try.prog 30 = some [AV.nil] := by kernel_rfl
@[go_sem] theorem T30ln0 (o) : aLen Try.prog o 30 .nil = some (.int .i64 0) := ln_nil (e := 61) (by kernel_rfl) o
@[go_sem] theorem T30ln1 (o n cs) : aLen Try.prog o 30 (.sl n cs) = some (.int .i64 n) := ln_sl (e := 61) (by kernel_rfl) o n cs
@[go_sem] theorem T30ln2 (o k g off n) : aLen Try.prog o 30 (.ref k g off n) = some (.int .i64 n) := ln_ref (e := 61) (by kernel_rfl) o k g off n
@[go_sem] theorem T30ix1 (n cs i) : aIndexAddr Try.prog 30 (.sl n cs) i = if 0 ≤ i ∧ i < (n : Int) then some (.fptr (cs.drop (i.toNat * 3))) else none := ixs_sl (s := 3) (by kernel_rfl) n cs i
@[go_sem] theorem T30ix2 (k g off n i) : aIndexAddr Try.prog 30 (.ref k g off n) i = if 0 ≤ i ∧ i < (n : Int) then some (.ptr k g (off + i.toNat * 3)) else none := ixs_ref (s := 3) (by kernel_rfl) k g off n i
@[go_sem] theorem T30sl1 (n cs lo hi) : aSlice Try.prog 30 (.sl n cs) lo hi = if 0 ≤ lo.getD 0 ∧ lo.getD 0 ≤ hi.getD n ∧ hi.getD n ≤ n then some (.sl ((hi.getD n).toNat - (lo.getD 0).toNat) ((cs.take ((hi.getD n).toNat * 3)).drop ((lo.getD 0).toNat * 3))) else none := sl_sl (s := 3) (by kernel_rfl) n cs lo hi
@[go_sem] theorem T30sl2 (k g off n lo hi) : aSlice Try.prog 30 (.ref k g off n) lo hi = if 0 ≤ lo.getD 0 ∧ lo.getD 0 ≤ hi.getD n ∧ hi.getD n ≤ n then some (.ref k g (off + (lo.getD 0).toNat * 3) ((hi.getD n).toNat - (lo.getD 0).toNat)) else none := sl_ref (s := 2) (by kernel_rfl) k g off n lo hi
@[go_sem] theorem T30cp (k g off n x o nx) : aCopy Try.prog 30 (.ref k g off n) x ⟨o, nx⟩ = (srcOf o x).bind fun q => (rowIf (o k) g).bind (copyR k off n 3 q.1 q.2 o nx) := cp_ref (by kernel_rfl) k g off n x o nx
@[go_sem] theorem T30ms (tg l c o nx) : aMakeSlice Try.prog tg 30 l c ⟨o, nx⟩ = if 0 ≤ l ∧ l ≤ c ∧ c * 24 ≤ maxB ∧ c ≤ maxB then some (.ref tg tg 0 l.toNat, ⟨upd o tg (.row ⟨61, 3, tg, false, true, rep [AV.int .i64 0, AV.int .i64 0, AV.int .i64 0] l.toNat⟩), nx⟩) else none := ms_eq (e := 61) (s := 2) (b := 24) (z := [AV.int .i64 0, AV.int .i64 0, AV.int .i64 0]) (by kernel_rfl) (by kernel_rfl) (by kernel_rfl) (by kernel_rfl) rfl tg l c o nx
@[go_sem] theorem T30bs (tg n ps o nx) : aBuildSlice Try.prog tg 30 n ps ⟨o, nx⟩ = if n * 3 ≤ 16777216 then (fillA (fun i => some (i * 3, 3)) (rep [AV.int .i64 0, AV.int .i64 0, AV.int .i64 0] n) ps).map (fun cs => (.ref tg tg 0 n, ⟨upd o tg (.row ⟨61, 3, tg, false, true, cs⟩), nx⟩)) else none := bs_eq (e := 61) (s := 2) (z := [AV.int .i64 0, AV.int .i64 0, AV.int .i64 0]) (by kernel_rfl) (by kernel_rfl) (by kernel_rfl) rfl tg n ps o nx
@[go_sem] theorem T30ap (tg x y o nx) : aAppend Try.prog tg 30 30 x y ⟨o, nx⟩ = (srcOf o y).bind fun q => appW tg 61 3 24 x q.1 q.2 o nx := ap_eq (e := 61) (s := 2) (b := 23) (z := [AV.int .i64 0, AV.int .i64 0, AV.int .i64 0]) (by kernel_rfl) (by kernel_rfl) (by kernel_rfl) (by kernel_rfl) rfl (by kernel_rfl) tg x y o nx
@[go_sem] theorem T31s : tSize Try.prog 31 = some 1 := by kernel_rfl
@[go_sem] theorem T31a : tAgg Try.prog 31 = some false := by kernel_rfl
@[go_sem] theorem T31z : tZero Try.prog 31 = some [AV.nil] := by kernel_rfl
@[go_sem] theorem T31ln0 (o) : aLen Try.prog o 31 .nil = some (.int .i64 0) := ln_nil (e := 66) (by kernel_rfl) o
@[go_sem] theorem T31ln1 (o n cs) : aLen Try.prog o 31 (.sl n cs) = some (.int .i64 n) := ln_sl (e := 66) (by kernel_rfl) o n cs
@[go_sem] theorem T31ln2 (o k g off n) : aLen Try.prog o 31 (.ref k g off n) = some (.int .i64 n) := ln_ref (e := 66) (by kernel_rfl) o k g off n
@[go_sem] theorem T31ix1 (n cs i) : aIndexAddr Try.prog 31 (.sl n cs) i = if 0 ≤ i ∧ i < (n : Int) then some (.fptr (cs.drop (i.toNat * 2))) else none := ixs_sl (s := 2) (by kernel_rfl) n cs i
@[go_sem] theorem T31ix2 (k g off n i) : aIndexAddr Try.prog 31 (.ref k g off n) i = if 0 ≤ i ∧ i < (n : Int) then some (.ptr k g (off + i.toNat * 2)) else none := ixs_ref (s := 2) (by kernel_rfl) k g off n i
@[go_sem] theorem T31sl1 (n cs lo hi) : aSlice Try.prog 31 (.sl n cs) lo hi = if 0 ≤ lo.getD 0 ∧ lo.getD 0 ≤ hi.getD n ∧ hi.getD n ≤ n then some (.sl ((hi.getD n).toNat - (lo.getD 0).toNat) ((cs.take ((hi.getD n).toNat * 2)).drop ((lo.getD 0).toNat * 2))) else none := sl_sl (s := 2) (by kernel_rfl) n cs lo hi
@[go_sem] theorem T31sl2 (k g off n lo hi) : aSlice Try.prog 31 (.ref k g off n) lo hi = if 0 ≤ lo.getD 0 ∧ lo.getD 0 ≤ hi.getD n ∧ hi.getD n ≤ n then some (.ref k g (off + (lo.getD 0).toNat * 2) ((hi.getD n).toNat - (lo.getD 0).toNat)) else none := sl_ref (s := 1) (by kernel_rfl) k g off n lo hi
@[go_sem] theorem T31cp (k g off n x o nx) : aCopy Try.prog 31 (.ref k g off n) x ⟨o, nx⟩ = (srcOf o x).bind fun q => (rowIf (o k) g).bind (copyR k off n 2 q.1 q.2 o nx) := cp_ref (by kernel_rfl) k g off n x o nx
@[go_sem] theorem T31ms (tg l c o nx) : aMakeSlice Try.prog tg 31 l c ⟨o, nx⟩ = if 0 ≤ l ∧ l ≤ c ∧ c * 16 ≤ maxB ∧ c ≤ maxB then some (.ref tg tg 0 l.toNat, ⟨upd o tg (.row ⟨66, 2, tg, false, true, rep [AV.int .i64 0, AV.int .i64 0] l.toNat⟩), nx⟩) else none := ms_eq (e := 66) (s := 1) (b := 16) (z := [AV.int .i64 0, AV.int .i64 0]) (by kernel_rfl) (by kernel_rfl) (by kernel_rfl) (by kernel_rfl) rfl tg l c o nx
@[go_sem] theorem T31bs (tg n ps o nx) : aBuildSlice Try.prog tg 31 n ps ⟨o, nx⟩ = if n * 2 ≤ 16777216 then (fillA (fun i => some (i * 2, 2)) (rep [AV.int .i64 0, AV.int .i64 0] n) ps).map (fun cs => (.ref tg tg 0 n, ⟨upd o tg (.row ⟨66, 2, tg, false, true, cs⟩), nx⟩)) else none := bs_eq (e := 66) (s := 1) (z := [AV.int .i64 0, AV.int .i64 0]) (by kernel_rfl) (by kernel_rfl) (by kernel_rfl) rfl tg n ps o nx
@[go_sem] theorem T31ap (tg x y o nx) : aAppend Try.prog tg 31 31 x y ⟨o, nx⟩ = (srcOf o y).bind fun q => appW tg 66 2 16 x q.1 q.2 o nx := ap_eq (e := 66) (s := 1) (b := 15) (z := [AV.int .i64 0, AV.int .i64 0]) (by kernel_rfl) (by kernel_rfl) (by kernel_rfl) (by kernel_rfl) rfl (by kernel_rfl) tg x y o nx
@[go_sem] theorem T32s : tSize Try.prog 32 = some 5 := by kernel_rfl
@[go_sem] theorem T32a : tAgg Try.prog 32 = some true := by kernel_rfl
@[go_sem] theorem T32z : tZero Try.prog 32 = some [AV.int .i64 0, AV.int .i64 0, AV.int .i64 0, AV.nil, AV.nil] := by kernel_rfl
@[go_sem] theorem T32f0p (k g off) : fieldAddrA Try.prog 32 0 (.ptr k g off) = some (.ptr k g (off + 0)) := fa_ptr (s := 0) (ft := 3) (by kernel_rfl) (by kernel_rfl) k g off
@[go_sem] theorem T32f0q (cs) : fieldAddrA Try.prog 32 0 (.fptr cs) = some (.fptr (cs.drop 0)) := fa_fptr (s := 0) (ft := 3) (by kernel_rfl) (by kernel_rfl) cs
@[go_sem] theorem T32f0v (cs) : fieldA Try.prog 32 0 (.agg cs) = takeT Try.prog 3 (cs.drop 0) := fi_agg (by kernel_rfl) cs
@[go_sem] theorem T32f1p (k g off) : fieldAddrA Try.prog 32 1 (.ptr k g off) = some (.ptr k g (off + 1)) := fa_ptr (s := 0) (ft := 3) (by kernel_rfl) (by kernel_rfl) k g off
@[go_sem] theorem T32f1q (cs) : fieldAddrA Try.prog 32 1 (.fptr cs) = some (.fptr (cs.drop 1)) := fa_fptr (s := 0) (ft := 3) (by kernel_rfl) (by kernel_rfl) cs
@[go_sem] theorem T32f1v (cs) : fieldA Try.prog 32 1 (.agg cs) = takeT Try.prog 3 (cs.drop 1) := fi_agg (by kernel_rfl) cs
@[go_sem] theorem T32f2p (k g off) : fieldAddrA Try.prog 32 2 (.ptr k g off) = some (.ptr k g (off + 2)) := fa_ptr (s := 0) (ft := 3) (by kernel_rfl) (by kernel_rfl) k g off
@[go_sem] theorem T32f2q (cs) : fieldAddrA Try.prog 32 2 (.fptr cs) = some (.fptr (cs.drop 2)) := fa_fptr (s := 0) (ft := 3) (by kernel_rfl) (by kernel_rfl) cs
@[go_sem] theorem T32f2v (cs) : fieldA Try.prog 32 2 (.agg cs) = takeT Try.prog 3 (cs.drop 2) := fi_agg (by kernel_rfl) cs
@[go_sem] theorem T32f3p (k g off) : fieldAddrA Try.prog 32 3 (.ptr k g off) = some (.ptr k g (off + 3)) := fa_ptr (s := 0) (ft := 30) (by kernel_rfl) (by kernel_rfl) k g off
@[go_sem] theorem T32f3q (cs) : fieldAddrA Try.prog 32 3 (.fptr cs) = some (.fptr (cs.drop 3)) := fa_fptr (s := 0) (ft := 30) (by kernel_rfl) (by kernel_rfl) cs
@[go_sem] theorem T32f3v (cs) : fieldA Try.prog 32 3 (.agg cs) = takeT Try.prog 30 (cs.drop 3) := fi_agg (by kernel_rfl) cs
@[go_sem] theorem T32f4p (k g off) : fieldAddrA Try.prog 32 4 (.ptr k g off) = some (.ptr k g (off + 4)) := fa_ptr (s := 0) (ft := 31) (by kernel_rfl) (by kernel_rfl) k g off
@[go_sem] theorem T32f4q (cs) : fieldAddrA Try.prog 32 4 (.fptr cs) = some (.fptr (cs.drop 4)) := fa_fptr (s := 0) (ft := 31) (by kernel_rfl) (by kernel_rfl) cs
@[go_sem] theorem T32f4v (cs) : fieldA Try.prog 32 4 (.agg cs) = takeT Try.prog 31 (cs.drop 4) := fi_agg (by kernel_rfl) cs
@[go_sem] theorem T32bd (xs) : aBuild Try.prog 32 xs = (fillA (fun i => ([(0, 1), (1, 1), (2, 1), (3, 1), (4, 1)] : List (Nat × Nat))[i]?) [AV.int .i64 0, AV.int .i64 0, AV.int .i64 0, AV.nil, AV.nil] xs).map .agg := by kernel_rfl
@[go_sem] theorem T33s : tSize Try.prog 33 = some 5 := by kernel_rfl
@[go_sem] theorem T33a : tAgg Try.prog 33 = some true := by kernel_rfl
@[go_sem] theorem T33z : tZero Try.prog 33 = some [AV.int .i64 0, AV.int .i64 0, AV.int .i64 0, AV.nil, AV.nil] := by kernel_rfl
@[go_sem] theorem T33f0p (k g off) : fieldAddrA Try.prog 33 0 (.ptr k g off) = some (.ptr k g (off + 0)) := fa_ptr (s := 0) (ft := 3) (by kernel_rfl) (by kernel_rfl) k g off
@[go_sem] theorem T33f0q (cs) : fieldAddrA Try.prog 33 0 (.fptr cs) = some (.fptr (cs.drop 0)) := fa_fptr (s := 0) (ft := 3) (by kernel_rfl) (by kernel_rfl) cs
@[go_sem] theorem T33f0v (cs) : fieldA Try.prog 33 0 (.agg cs) = takeT Try.prog 3 (cs.drop 0) := fi_agg (by kernel_rfl) cs
@[go_sem] theorem T33f1p (k g off) : fieldAddrA Try.prog 33 1 (.ptr k g off) = some (.ptr k g (off + 1)) := fa_ptr (s := 0) (ft := 3) (by kernel_rfl) (by kernel_rfl) k g off
@[go_sem] theorem T33f1q (cs) : fieldAddrA Try.prog 33 1 (.fptr cs) = some (.fptr (cs.drop 1)) := fa_fptr (s := 0) (ft := 3) (by kernel_rfl) (by kernel_rfl) cs
@[go_sem] theorem T33f1v (cs) : fieldA Try.prog 33 1 (.agg cs) = takeT Try.prog 3 (cs.drop 1) := fi_agg (by kernel_rfl) cs
@[go_sem] theorem T33f2p (k g off) : fieldAddrA Try.prog 33 2 (.ptr k g off) = some (.ptr k g (off + 2)) := fa_ptr (s := 0) (ft := 3) (by kernel_rfl) (by kernel_rfl) k g off
@[go_sem] theorem T33f2q (cs) : fieldAddrA Try.prog 33 2 (.fptr cs) = some (.fptr (cs.drop 2)) := fa_fptr (s := 0) (ft := 3) (by kernel_rfl) (by kernel_rfl) cs
@[go_sem] theorem T33f2v (cs) : fieldA Try.prog 33 2 (.agg cs) = takeT Try.prog 3 (cs.drop 2) := fi_agg (by kernel_rfl) cs
@[go_sem] theorem T33f3p (k g off) : fieldAddrA Try.prog 33 3 (.ptr k g off) = some (.ptr k g (off + 3)) := fa_ptr (s := 0) (ft := 30) (by kernel_rfl) (by kernel_rfl) k g off
@[go_sem] theorem T33f3q (cs) : fieldAddrA Try.prog 33 3 (.fptr cs) = some (.fptr (cs.drop 3)) := fa_fptr (s := 0) (ft := 30) (by kernel_rfl) (by kernel_rfl) cs
@[go_sem] theorem T33f3v (cs) : fieldA Try.prog 33 3 (.agg cs) = takeT Try.prog 30 (cs.drop 3) := fi_agg (by kernel_rfl) cs
@[go_sem] theorem T33f4p (k g off) : fieldAddrA Try.prog 33 4 (.ptr k g off) = some (.ptr k g (off + 4)) := fa_ptr (s := 0) (ft := 31) (by kernel_rfl) (by kernel_rfl) k g off
@[go_sem] theorem T33f4q (cs) : fieldAddrA Try.prog 33 4 (.fptr cs) = some (.fptr (cs.drop 4)) := fa_fptr (s := 0) (ft := 31) (by kernel_rfl) (by kernel_rfl) cs
@[go_sem] theorem T33f4v (cs) : fieldA Try.prog 33 4 (.agg cs) = takeT Try.prog 31 (cs.drop 4) := fi_agg (by kernel_rfl) cs
@[go_sem] theorem T33bd (xs) : aBuild Try.prog 33 xs = (fillA (fun i => ([(0, 1), (1, 1), (2, 1), (3, 1), (4, 1)] : List (Nat × Nat))[i]?) [AV.int .i64 0, AV.int .i64 0, AV.int .i64 0, AV.nil, AV.nil] xs).map .agg := by kernel_rfl
@[go_sem] theorem T34s : tSize Try.prog 34 = some 1 := by kernel_rfl
@[go_sem] theorem T34a : tAgg Try.prog 34 = some false := by kernel_rfl
@[go_sem] theorem T34z : tZero Try.prog 34 = some [AV.int .i64 0] := by kernel_rfl
@[go_sem] theorem T34u : Try.prog.underlying 34 = some (.int .i64) := by kernel_rfl
@[go_sem] theorem T44s : tSize Try.prog 44 = some 3 := by kernel_rfl
@[go_sem] theorem T44a : tAgg Try.prog 44 = some true := by kernel_rfl
@[go_sem] theorem T44z : tZero Try.prog 44 = some [AV.int .i64 0, AV.int .i64 0, AV.nil] := by kernel_rfl
@[go_sem] theorem T44f0p (k g off) : fieldAddrA Try.prog 44 0 (.ptr k g off) = some (.ptr k g (off + 0)) := fa_ptr (s := 0) (ft := 3) (by kernel_rfl) (by kernel_rfl) k g off
@[go_sem] theorem T44f0q (cs) : fieldAddrA Try.prog 44 0 (.fptr cs) = some (.fptr (cs.drop 0)) := fa_fptr (s := 0) (ft := 3) (by kernel_rfl) (by kernel_rfl) cs
@[go_sem] theorem T44f0v (cs) : fieldA Try.prog 44 0 (.agg cs) = takeT Try.prog 3 (cs.drop 0) := fi_agg (by kernel_rfl) cs
@[go_sem] theorem T44f1p (k g off) : fieldAddrA Try.prog 44 1 (.ptr k g off) = some (.ptr k g (off + 1)) := fa_ptr (s := 0) (ft := 3) (by kernel_rfl) (by kernel_rfl) k g off
@[go_sem] theorem T44f1q (cs) : fieldAddrA Try.prog 44 1 (.fptr cs) = some (.fptr (cs.drop 1)) := fa_fptr (s := 0) (ft := 3) (by kernel_rfl) (by kernel_rfl) cs
@[go_sem] theorem T44f1v (cs) : fieldA Try.prog 44 1 (.agg cs) = takeT Try.prog 3 (cs.drop 1) := fi_agg (by kernel_rfl) cs
@[go_sem] theorem T44f2p (k g off) : fieldAddrA Try.prog 44 2 (.ptr k g off) = some (.ptr k g (off + 2)) := fa_ptr (s := 0) (ft := 22) (by kernel_rfl) (by kernel_rfl) k g off
@[go_sem] theorem T44f2q (cs) : fieldAddrA Try.prog 44 2 (.fptr cs) = some (.fptr (cs.drop 2)) := fa_fptr (s := 0) (ft := 22) (by kernel_rfl) (by kernel_rfl) cs
@[go_sem] theorem T44f2v (cs) : fieldA Try.prog 44 2 (.agg cs) = takeT Try.prog 22 (cs.drop 2) := fi_agg (by kernel_rfl) cs
@[go_sem] theorem T44bd (xs) : aBuild Try.prog 44 xs = (fillA (fun i => ([(0, 1), (1, 1), (2, 1)] : List (Nat × Nat))[i]?) [AV.int .i64 0, AV.int .i64 0, AV.nil] xs).map .agg := by kernel_rfl
@[go_sem] theorem T45s : tSize Try.prog 45 = some 3 := by kernel_rfl
@[go_sem] theorem T45a : tAgg Try.prog 45 = some true := by kernel_rfl
@[go_sem] theorem T45z : tZero Try.prog 45 = some [AV.int .i64 0, AV.int .i64 0, AV.nil] := by kernel_rfl
@[go_sem] theorem T45f0p (k g off) : fieldAddrA Try.prog 45 0 (.ptr k g off) = some (.ptr k g (off + 0)) := fa_ptr (s := 0) (ft := 3) (by kernel_rfl) (by kernel_rfl) k g off
@[go_sem] theorem T45f0q (cs) : fieldAddrA Try.prog 45 0 (.fptr cs) = some (.fptr (cs.drop 0)) := fa_fptr (s := 0) (ft := 3) (by kernel_rfl) (by kernel_rfl) cs
@[go_sem] theorem T45f0v (cs) : fieldA Try.prog 45 0 (.agg cs) = takeT Try.prog 3 (cs.drop 0) := fi_agg (by kernel_rfl) cs
@[go_sem] theorem T45f1p (k g off) : fieldAddrA Try.prog 45 1 (.ptr k g off) = some (.ptr k g (off + 1)) := fa_ptr (s := 0) (ft := 3) (by kernel_rfl) (by kernel_rfl) k g off
@[go_sem] theorem T45f1q (cs) : fieldAddrA Try.prog 45 1 (.fptr cs) = some (.fptr (cs.drop 1)) := fa_fptr (s := 0) (ft := 3) (by kernel_rfl) (by kernel_rfl) cs
@[go_sem] theorem T45f1v (cs) : fieldA Try.prog 45 1 (.agg cs) = takeT Try.prog 3 (cs.drop 1) := fi_agg (by kernel_rfl) cs
@[go_sem] theorem T45f2p (k g off) : fieldAddrA Try.prog 45 2 (.ptr k g off) = some (.ptr k g (off + 2)) := fa_ptr (s := 0) (ft := 22) (by kernel_rfl) (by kernel_rfl) k g off
@[go_sem] theorem T45f2q (cs) : fieldAddrA Try.prog 45 2 (.fptr cs) = some (.fptr (cs.drop 2)) := fa_fptr (s := 0) (ft := 22) (by kernel_rfl) (by kernel_rfl) cs
@[go_sem] theorem T45f2v (cs) : fieldA Try.prog 45 2 (.agg cs) = takeT Try.prog 22 (cs.drop 2) := fi_agg (by kernel_rfl) cs
@[go_sem] theorem T45bd (xs) : aBuild Try.prog 45 xs = (fillA (fun i => ([(0, 1), (1, 1), (2, 1)] : List (Nat × Nat))[i]?) [AV.int .i64 0, AV.int .i64 0, AV.nil] xs).map .agg := by kernel_rfl
@[go_sem] theorem T47s : tSize Try.prog 47 = some 1 := by kernel_rfl
@[go_sem] theorem T47a : tAgg Try.prog 47 = some false := by kernel_rfl
@[go_sem] theorem T47z : tZero Try.prog 47 = some [AV.nilp] := by kernel_rfl
@[go_sem] theorem T48s : tSize Try.prog 48 = some 5 := by kernel_rfl
@[go_sem] theorem T48a : tAgg Try.prog 48 = some true := by kernel_rfl
@[go_sem] theorem T48z : tZero Try.prog 48 = some [AV.int .i64 0, AV.int .i64 0, AV.int .i64 0, AV.nil, AV.nil] := by kernel_rfl
@[go_sem] theorem T48f0p (k g off) : fieldAddrA Try.prog 48 0 (.ptr k g off) = some (.ptr k g (off + 0)) := fa_ptr (s := 4) (ft := 33) (by kernel_rfl) (by kernel_rfl) k g off
@[go_sem] theorem T48f0q (cs) : fieldAddrA Try.prog 48 0 (.fptr cs) = some (.fptr (cs.drop 0)) := fa_fptr (s := 4) (ft := 33) (by kernel_rfl) (by kernel_rfl) cs
@[go_sem] theorem T48f0v (cs) : fieldA Try.prog 48 0 (.agg cs) = takeT Try.prog 33 (cs.drop 0) := fi_agg (by kernel_rfl) cs
@[go_sem] theorem T48bd (xs) : aBuild Try.prog 48 xs = (fillA (fun i => ([(0, 5)] : List (Nat × Nat))[i]?) [AV.int .i64 0, AV.int .i64 0, AV.int .i64 0, AV.nil, AV.nil] xs).map .agg := by kernel_rfl
@[go_sem] theorem T49s : tSize Try.prog 49 = some 5 := by kernel_rfl
@[go_sem] theorem T49a : tAgg Try.prog 49 = some true := by kernel_rfl
@[go_sem] theorem T49z : tZero Try.prog 49 = some [AV.int .i64 0, AV.int .i64 0, AV.int .i64 0, AV.nil, AV.nil] := by kernel_rfl
@[go_sem] theorem T49f0p (k g off) : fieldAddrA Try.prog 49 0 (.ptr k g off) = some (.ptr k g (off + 0)) := fa_ptr (s := 4) (ft := 33) (by kernel_rfl) (by kernel_rfl) k g off
@[go_sem] theorem T49f0q (cs) : fieldAddrA Try.prog 49 0 (.fptr cs) = some (.fptr (cs.drop 0)) := fa_fptr (s := 4) (ft := 33) (by kernel_rfl) (by kernel_rfl) cs
@[go_sem] theorem T49f0v (cs) : fieldA Try.prog 49 0 (.agg cs) = takeT Try.prog 33 (cs.drop 0) := fi_agg (by kernel_rfl) cs
@[go_sem] theorem T49bd (xs) : aBuild Try.prog 49 xs = (fillA (fun i => ([(0, 5)] : List (Nat × Nat))[i]?) [AV.int .i64 0, AV.int .i64 0, AV.int .i64 0, AV.nil, AV.nil] xs).map .agg := by kernel_rfl
@[go_sem] theorem T50s : tSize Try.prog 50 = some 2 := by kernel_rfl
@[go_sem] theorem T50a : tAgg Try.prog 50 = some true := by kernel_rfl
@[go_sem] theorem T50z : tZero Try.prog 50 = some [AV.int .i64 0, AV.int .i64 0] := by kernel_rfl
@[go_sem] theorem T50f0p (k g off) : fieldAddrA Try.prog 50 0 (.ptr k g off) = some (.ptr k g (off + 0)) := fa_ptr (s := 0) (ft := 3) (by kernel_rfl) (by kernel_rfl) k g off
@[go_sem] theorem T50f0q (cs) : fieldAddrA Try.prog 50 0 (.fptr cs) = some (.fptr (cs.drop 0)) := fa_fptr (s := 0) (ft := 3) (by kernel_rfl) (by kernel_rfl) cs
@[go_sem] theorem T50f0v (cs) : fieldA Try.prog 50 0 (.agg cs) = takeT Try.prog 3 (cs.drop 0) := fi_agg (by kernel_rfl) cs
@[go_sem] theorem T50f1p (k g off) : fieldAddrA Try.prog 50 1 (.ptr k g off) = some (.ptr k g (off + 1)) := fa_ptr (s := 0) (ft := 3) (by kernel_rfl) (by kernel_rfl) k g off
@[go_sem] theorem T50f1q (cs) : fieldAddrA Try.prog 50 1 (.fptr cs) = some (.fptr (cs.drop 1)) := fa_fptr (s := 0) (ft := 3) (by kernel_rfl) (by kernel_rfl) cs
@[go_sem] theorem T50f1v (cs) : fieldA Try.prog 50 1 (.agg cs) = takeT Try.prog 3 (cs.drop 1) := fi_agg (by kernel_rfl) cs
@[go_sem] theorem T50bd (xs) : aBuild Try.prog 50 xs = (fillA (fun i => ([(0, 1), (1, 1)] : List (Nat × Nat))[i]?) [AV.int .i64 0, AV.int .i64 0] xs).map .agg := by kernel_rfl
@[go_sem] theorem T50lf : eqLeaves Try.prog 50 = some [Leaf.int, Leaf.int] := by kernel_rfl
@[go_sem] theorem T51s : tSize Try.prog 51 = some 2 := by kernel_rfl
@[go_sem] theorem T51a : tAgg Try.prog 51 = some true := by kernel_rfl
@[go_sem] theorem T51z : tZero Try.prog 51 = some [AV.int .i64 0, AV.int .i64 0] := by kernel_rfl
@[go_sem] theorem T51f0p (k g off) : fieldAddrA Try.prog 51 0 (.ptr k g off) = some (.ptr k g (off + 0)) := fa_ptr (s := 0) (ft := 3) (by kernel_rfl) (by kernel_rfl) k g off
@[go_sem] theorem T51f0q (cs) : fieldAddrA Try.prog 51 0 (.fptr cs) = some (.fptr (cs.drop 0)) := fa_fptr (s := 0) (ft := 3) (by kernel_rfl) (by kernel_rfl) cs
@[go_sem] theorem T51f0v (cs) : fieldA Try.prog 51 0 (.agg cs) = takeT Try.prog 3 (cs.drop 0) := fi_agg (by kernel_rfl) cs
@[go_sem] theorem T51f1p (k g off) : fieldAddrA Try.prog 51 1 (.ptr k g off) = some (.ptr k g (off + 1)) := fa_ptr (s := 0) (ft := 3) (by kernel_rfl) (by kernel_rfl) k g off
@[go_sem] theorem T51f1q (cs) : fieldAddrA Try.prog 51 1 (.fptr cs) = some (.fptr (cs.drop 1)) := fa_fptr (s := 0) (ft := 3) (by kernel_rfl) (by kernel_rfl) cs
@[go_sem] theorem T51f1v (cs) : fieldA Try.prog 51 1 (.agg cs) = takeT Try.prog 3 (cs.drop 1) := fi_agg (by kernel_rfl) cs
@[go_sem] theorem T51bd (xs) : aBuild Try.prog 51 xs = (fillA (fun i => ([(0, 1), (1, 1)] : List (Nat × Nat))[i]?) [AV.int .i64 0, AV.int .i64 0] xs).map .agg := by kernel_rfl
@[go_sem] theorem T51lf : eqLeaves Try.prog 51 = some [Leaf.int, Leaf.int] := by kernel_rfl
@[go_sem] theorem T55s : tSize Try.prog 55 = some 1 := by kernel_rfl
@[go_sem] theorem T55a : tAgg Try.prog 55 = some false := by kernel_rfl
@[go_sem] theorem T55z : tZero Try.prog 55 = some [AV.nil] := by kernel_rfl
@[go_sem] theorem T55ln0 (o) : aLen Try.prog o 55 .nil = some (.int .i64 0) := ln_nil (e := 23) (by kernel_rfl) o
@[go_sem] theorem T55ln1 (o n cs) : aLen Try.prog o 55 (.sl n cs) = some (.int .i64 n) := ln_sl (e := 23) (by kernel_rfl) o n cs
@[go_sem] theorem T55ln2 (o k g off n) : aLen Try.prog o 55 (.ref k g off n) = some (.int .i64 n) := ln_ref (e := 23) (by kernel_rfl) o k g off n
@[go_sem] theorem T55ix1 (n cs i) : aIndexAddr Try.prog 55 (.sl n cs) i = if 0 ≤ i ∧ i < (n : Int) then some (.fptr (cs.drop (i.toNat * 1))) else none := ixs_sl (s := 1) (by kernel_rfl) n cs i
@[go_sem] theorem T55ix2 (k g off n i) : aIndexAddr Try.prog 55 (.ref k g off n) i = if 0 ≤ i ∧ i < (n : Int) then some (.ptr k g (off + i.toNat * 1)) else none := ixs_ref (s := 1) (by kernel_rfl) k g off n i
@[go_sem] theorem T55sl1 (n cs lo hi) : aSlice Try.prog 55 (.sl n cs) lo hi = if 0 ≤ lo.getD 0 ∧ lo.getD 0 ≤ hi.getD n ∧ hi.getD n ≤ n then some (.sl ((hi.getD n).toNat - (lo.getD 0).toNat) ((cs.take ((hi.getD n).toNat * 1)).drop ((lo.getD 0).toNat * 1))) else none := sl_sl (s := 1) (by kernel_rfl) n cs lo hi
@[go_sem] theorem T55sl2 (k g off n lo hi) : aSlice Try.prog 55 (.ref k g off n) lo hi = if 0 ≤ lo.getD 0 ∧ lo.getD 0 ≤ hi.getD n ∧ hi.getD n ≤ n then some (.ref k g (off + (lo.getD 0).toNat * 1) ((hi.getD n).toNat - (lo.getD 0).toNat)) else none := sl_ref (s := 0) (by kernel_rfl) k g off n lo hi
@[go_sem] theorem T55cp (k g off n x o nx) : aCopy Try.prog 55 (.ref k g off n) x ⟨o, nx⟩ = (srcOf o x).bind fun q => (rowIf (o k) g).bind (copyR k off n 1 q.1 q.2 o nx) := cp_ref (by kernel_rfl) k g off n x o nx
@[go_sem] theorem T55ms (tg l c o nx) : aMakeSlice Try.prog tg 55 l c ⟨o, nx⟩ = if 0 ≤ l ∧ l ≤ c ∧ c * 24 ≤ maxB ∧ c ≤ maxB then some (.ref tg tg 0 l.toNat, ⟨upd o tg (.row ⟨23, 1, tg, false, true, rep [AV.nil] l.toNat⟩), nx⟩) else none := ms_eq (e := 23) (s := 0) (b := 24) (z := [AV.nil]) (by kernel_rfl) (by kernel_rfl) (by kernel_rfl) (by kernel_rfl) rfl tg l c o nx
@[go_sem] theorem T55bs (tg n ps o nx) : aBuildSlice Try.prog tg 55 n ps ⟨o, nx⟩ = if n * 1 ≤ 16777216 then (fillA (fun i => some (i * 1, 1)) (rep [AV.nil] n) ps).map (fun cs => (.ref tg tg 0 n, ⟨upd o tg (.row ⟨23, 1, tg, false, true, cs⟩), nx⟩)) else none := bs_eq (e := 23) (s := 0) (z := [AV.nil]) (by kernel_rfl) (by kernel_rfl) (by kernel_rfl) rfl tg n ps o nx
@[go_sem] theorem T55ap (tg x y o nx) : aAppend Try.prog tg 55 55 x y ⟨o, nx⟩ = (srcOf o y).bind fun q => appW tg 23 1 24 x q.1 q.2 o nx := ap_eq (e := 23) (s := 0) (b := 23) (z := [AV.nil]) (by kernel_rfl) (by kernel_rfl) (by kernel_rfl) (by kernel_rfl) rfl (by kernel_rfl) tg x y o nx
@[go_sem] theorem T56s : tSize Try.prog 56 = some 2 := by kernel_rfl
@[go_sem] theorem T56a : tAgg Try.prog 56 = some true := by kernel_rfl
@[go_sem] theorem T56z : tZero Try.prog 56 = some [AV.int .i64 0, AV.nil] := by kernel_rfl
@[go_sem] theorem T56f0p (k g off) : fieldAddrA Try.prog 56 0 (.ptr k g off) = some (.ptr k g (off + 0)) := fa_ptr (s := 0) (ft := 3) (by kernel_rfl) (by kernel_rfl) k g off
@[go_sem] theorem T56f0q (cs) : fieldAddrA Try.prog 56 0 (.fptr cs) = some (.fptr (cs.drop 0)) := fa_fptr (s := 0) (ft := 3) (by kernel_rfl) (by kernel_rfl) cs
@[go_sem] theorem T56f0v (cs) : fieldA Try.prog 56 0 (.agg cs) = takeT Try.prog 3 (cs.drop 0) := fi_agg (by kernel_rfl) cs
@[go_sem] theorem T56f1p (k g off) : fieldAddrA Try.prog 56 1 (.ptr k g off) = some (.ptr k g (off + 1)) := fa_ptr (s := 0) (ft := 55) (by kernel_rfl) (by kernel_rfl) k g off
@[go_sem] theorem T56f1q (cs) : fieldAddrA Try.prog 56 1 (.fptr cs) = some (.fptr (cs.drop 1)) := fa_fptr (s := 0) (ft := 55) (by kernel_rfl) (by kernel_rfl) cs
@[go_sem] theorem T56f1v (cs) : fieldA Try.prog 56 1 (.agg cs) = takeT Try.prog 55 (cs.drop 1) := fi_agg (by kernel_rfl) cs
@[go_sem] theorem T56bd (xs) : aBuild Try.prog 56 xs = (fillA (fun i => ([(0, 1), (1, 1)] : List (Nat × Nat))[i]?) [AV.int .i64 0, AV.nil] xs).map .agg := by kernel_rfl
@[go_sem] theorem T57s : tSize Try.prog 57 = some 2 := by kernel_rfl
@[go_sem] theorem T57a : tAgg Try.prog 57 = some true := by kernel_rfl
@[go_sem] theorem T57z : tZero Try.prog 57 = some [AV.int .i64 0, AV.nil] := by kernel_rfl
@[go_sem] theorem T57f0p (k g off) : fieldAddrA Try.prog 57 0 (.ptr k g off) = some (.ptr k g (off + 0)) := fa_ptr (s := 0) (ft := 3) (by kernel_rfl) (by kernel_rfl) k g off
@[go_sem] theorem T57f0q (cs) : fieldAddrA Try.prog 57 0 (.fptr cs) = some (.fptr (cs.drop 0)) := fa_fptr (s := 0) (ft := 3) (by kernel_rfl) (by kernel_rfl) cs
@[go_sem] theorem T57f0v (cs) : fieldA Try.prog 57 0 (.agg cs) = takeT Try.prog 3 (cs.drop 0) := fi_agg (by kernel_rfl) cs
@[go_sem] theorem T57f1p (k g off) : fieldAddrA Try.prog 57 1 (.ptr k g off) = some (.ptr k g (off + 1)) := fa_ptr (s := 0) (ft := 55) (by kernel_rfl) (by kernel_rfl) k g off
@[go_sem] theorem T57f1q (cs) : fieldAddrA Try.prog 57 1 (.fptr cs) = some (.fptr (cs.drop 1)) := fa_fptr (s := 0) (ft := 55) (by kernel_rfl) (by kernel_rfl) cs
@[go_sem] theorem T57f1v (cs) : fieldA Try.prog 57 1 (.agg cs) = takeT Try.prog 55 (cs.drop 1) := fi_agg (by kernel_rfl) cs
@[go_sem] theorem T57bd (xs) : aBuild Try.prog 57 xs = (fillA (fun i => ([(0, 1), (1, 1)] : List (Nat × Nat))[i]?) [AV.int .i64 0, AV.nil] xs).map .agg := by kernel_rfl
@[go_sem] theorem T59s : tSize Try.prog 59 = some 1 := by kernel_rfl
@[go_sem] theorem T59a : tAgg Try.prog 59 = some false := by kernel_rfl
@[go_sem] theorem T59z : tZero Try.prog 59 = some [AV.nil] := by kernel_rfl
@[go_sem] theorem T59ln0 (o) : aLen Try.prog o 59 .nil = some (.int .i64 0) := ln_nil (e := 4) (by kernel_rfl) o
@[go_sem] theorem T59ln1 (o n cs) : aLen Try.prog o 59 (.sl n cs) = some (.int .i64 n) := ln_sl (e := 4) (by kernel_rfl) o n cs
@[go_sem] theorem T59ln2 (o k g off n) : aLen Try.prog o 59 (.ref k g off n) = some (.int .i64 n) := ln_ref (e := 4) (by kernel_rfl) o k g off n
@[go_sem] theorem T59ix1 (n cs i) : aIndexAddr Try.prog 59 (.sl n cs) i = if 0 ≤ i ∧ i < (n : Int) then some (.fptr (cs.drop (i.toNat * 1))) else none := ixs_sl (s := 1) (by kernel_rfl) n cs i
@[go_sem] theorem T59ix2 (k g off n i) : aIndexAddr Try.prog 59 (.ref k g off n) i = if 0 ≤ i ∧ i < (n : Int) then some (.ptr k g (off + i.toNat * 1)) else none := ixs_ref (s := 1) (by kernel_rfl) k g off n i
@[go_sem] theorem T59sl1 (n cs lo hi) : aSlice Try.prog 59 (.sl n cs) lo hi = if 0 ≤ lo.getD 0 ∧ lo.getD 0 ≤ hi.getD n ∧ hi.getD n ≤ n then some (.sl ((hi.getD n).toNat - (lo.getD 0).toNat) ((cs.take ((hi.getD n).toNat * 1)).drop ((lo.getD 0).toNat * 1))) else none := sl_sl (s := 1) (by kernel_rfl) n cs lo hi
@[go_sem] theorem T59sl2 (k g off n lo hi) : aSlice Try.prog 59 (.ref k g off n) lo hi = if 0 ≤ lo.getD 0 ∧ lo.getD 0 ≤ hi.getD n ∧ hi.getD n ≤ n then some (.ref k g (off + (lo.getD 0).toNat * 1) ((hi.getD n).toNat - (lo.getD 0).toNat)) else none := sl_ref (s := 0) (by kernel_rfl) k g off n lo hi
@[go_sem] theorem T59cp (k g off n x o nx) : aCopy Try.prog 59 (.ref k g off n) x ⟨o, nx⟩ = (srcOf o x).bind fun q => (rowIf (o k) g).bind (copyR k off n 1 q.1 q.2 o nx) := cp_ref (by kernel_rfl) k g off n x o nx
@[go_sem] theorem T59ms (tg l c o nx) : aMakeSlice Try.prog tg 59 l c ⟨o, nx⟩ = if 0 ≤ l ∧ l ≤ c ∧ c * 1 ≤ maxB ∧ c ≤ maxB then some (.ref tg tg 0 l.toNat, ⟨upd o tg (.row ⟨4, 1, tg, false, true, rep [AV.bool false] l.toNat⟩), nx⟩) else none := ms_eq (e := 4) (s := 0) (b := 1) (z := [AV.bool false]) (by kernel_rfl) (by kernel_rfl) (by kernel_rfl) (by kernel_rfl) rfl tg l c o nx
@[go_sem] theorem T59bs (tg n ps o nx) : aBuildSlice Try.prog tg 59 n ps ⟨o, nx⟩ = if n * 1 ≤ 16777216 then (fillA (fun i => some (i * 1, 1)) (rep [AV.bool false] n) ps).map (fun cs => (.ref tg tg 0 n, ⟨upd o tg (.row ⟨4, 1, tg, false, true, cs⟩), nx⟩)) else none := bs_eq (e := 4) (s := 0) (z := [AV.bool false]) (by kernel_rfl) (by kernel_rfl) (by kernel_rfl) rfl tg n ps o nx
@[go_sem] theorem T59ap (tg x y o nx) : aAppend Try.prog tg 59 59 x y ⟨o, nx⟩ = (srcOf o y).bind fun q => appW tg 4 1 1 x q.1 q.2 o nx := ap_eq (e := 4) (s := 0) (b := 0) (z := [AV.bool false]) (by kernel_rfl) (by kernel_rfl) (by kernel_rfl) (by kernel_rfl) rfl (by kernel_rfl) tg x y o nx
@[go_sem] theorem T60s : tSize Try.prog 60 = some 3 := by kernel_rfl
@[go_sem] theorem T60a : tAgg Try.prog 60 = some true := by kernel_rfl
@[go_sem] theorem T60z : tZero Try.prog 60 = some [AV.int .i64 0, AV.int .i64 0, AV.int .i64 0] := by kernel_rfl
@[go_sem] theorem T60f0p (k g off) : fieldAddrA Try.prog 60 0 (.ptr k g off) = some (.ptr k g (off + 0)) := fa_ptr (s := 0) (ft := 3) (by kernel_rfl) (by kernel_rfl) k g off
@[go_sem] theorem T60f0q (cs) : fieldAddrA Try.prog 60 0 (.fptr cs) = some (.fptr (cs.drop 0)) := fa_fptr (s := 0) (ft := 3) (by kernel_rfl) (by kernel_rfl) cs
@[go_sem] theorem T60f0v (cs) : fieldA Try.prog 60 0 (.agg cs) = takeT Try.prog 3 (cs.drop 0) := fi_agg (by kernel_rfl) cs
@[go_sem] theorem T60f1p (k g off) : fieldAddrA Try.prog 60 1 (.ptr k g off) = some (.ptr k g (off + 1)) := fa_ptr (s := 0) (ft := 3) (by kernel_rfl) (by kernel_rfl) k g off
@[go_sem] theorem T60f1q (cs) : fieldAddrA Try.prog 60 1 (.fptr cs) = some (.fptr (cs.drop 1)) := fa_fptr (s := 0) (ft := 3) (by kernel_rfl) (by kernel_rfl) cs
@[go_sem] theorem T60f1v (cs) : fieldA Try.prog 60 1 (.agg cs) = takeT Try.prog 3 (cs.drop 1) := fi_agg (by kernel_rfl) cs
@[go_sem] theorem T60f2p (k g off) : fieldAddrA Try.prog 60 2 (.ptr k g off) = some (.ptr k g (off + 2)) := fa_ptr (s := 0) (ft := 3) (by kernel_rfl) (by kernel_rfl) k g off
@[go_sem] theorem T60f2q (cs) : fieldAddrA Try.prog 60 2 (.fptr cs) = some (.fptr (cs.drop 2)) := fa_fptr (s := 0) (ft := 3) (by kernel_rfl) (by kernel_rfl) cs
@[go_sem] theorem T60f2v (cs) : fieldA Try.prog 60 2 (.agg cs) = takeT Try.prog 3 (cs.drop 2) := fi_agg (by kernel_rfl) cs
@[go_sem] theorem T60bd (xs) : aBuild Try.prog 60 xs = (fillA (fun i => ([(0, 1), (1, 1), (2, 1)] : List (Nat × Nat))[i]?) [AV.int .i64 0, AV.int .i64 0, AV.int .i64 0] xs).map .agg := by kernel_rfl
@[go_sem] theorem T60lf : eqLeaves Try.prog 60 = some [Leaf.int, Leaf.int, Leaf.int] := by kernel_rfl
@[go_sem] theorem T61s : tSize Try.prog 61 = some 3 := by kernel_rfl
@[go_sem] theorem T61a : tAgg Try.prog 61 = some true := by kernel_rfl
@[go_sem] theorem T61z : tZero Try.prog 61 = some [AV.int .i64 0, AV.int .i64 0, AV.int .i64 0] := by kernel_rfl
@[go_sem] theorem T61f0p (k g off) : fieldAddrA Try.prog 61 0 (.ptr k g off) = some (.ptr k g (off + 0)) := fa_ptr (s := 0) (ft := 3) (by kernel_rfl) (by kernel_rfl) k g off
@[go_sem] theorem T61f0q (cs) : fieldAddrA Try.prog 61 0 (.fptr cs) = some (.fptr (cs.drop 0)) := fa_fptr (s := 0) (ft := 3) (by kernel_rfl) (by kernel_rfl) cs
@[go_sem] theorem T61f0v (cs) : fieldA Try.prog 61 0 (.agg cs) = takeT Try.prog 3 (cs.drop 0) := fi_agg (by kernel_rfl) cs
@[go_sem] theorem T61f1p (k g off) : fieldAddrA Try.prog 61 1 (.ptr k g off) = some (.ptr k g (off + 1)) := fa_ptr (s := 0) (ft := 3) (by kernel_rfl) (by kernel_rfl) k g off
@[go_sem] theorem T61f1q (cs) : fieldAddrA Try.prog 61 1 (.fptr cs) = some (.fptr (cs.drop 1)) := fa_fptr (s := 0) (ft := 3) (by kernel_rfl) (by kernel_rfl) cs
@[go_sem] theorem T61f1v (cs) : fieldA Try.prog 61 1 (.agg cs) = takeT Try.prog 3 (cs.drop 1) := fi_agg (by kernel_rfl) cs
@[go_sem] theorem T61f2p (k g off) : fieldAddrA Try.prog 61 2 (.ptr k g off) = some (.ptr k g (off + 2)) := fa_ptr (s := 0) (ft := 3) (by kernel_rfl) (by kernel_rfl) k g off
@[go_sem] theorem T61f2q (cs) : fieldAddrA Try.prog 61 2 (.fptr cs) = some (.fptr (cs.drop 2)) := fa_fptr (s := 0) (ft := 3) (by kernel_rfl) (by kernel_rfl) cs
@[go_sem] theorem T61f2v (cs) : fieldA Try.prog 61 2 (.agg cs) = takeT Try.prog 3 (cs.drop 2) := fi_agg (by kernel_rfl) cs
@[go_sem] theorem T61bd (xs) : aBuild Try.prog 61 xs = (fillA (fun i => ([(0, 1), (1, 1), (2, 1)] : List (Nat × Nat))[i]?) [AV.int .i64 0, AV.int .i64 0, AV.int .i64 0] xs).map .agg := by kernel_rfl
@[go_sem] theorem T61lf : eqLeaves Try.prog 61 = some [Leaf.int, Leaf.int, Leaf.int] := by kernel_rfl
@[go_sem] theorem T62s : tSize Try.prog 62 = some 1 := by kernel_rfl
@[go_sem] theorem T62a : tAgg Try.prog 62 = some false := by kernel_rfl
@[go_sem] theorem T62z : tZero Try.prog 62 = some [AV.nil] := by kernel_rfl
@[go_sem] theorem T62ln0 (o) : aLen Try.prog o 62 .nil = some (.int .i64 0) := ln_nil (e := 4) (by kernel_rfl) o
@[go_sem] theorem T62ln1 (o n cs) : aLen Try.prog o 62 (.sl n cs) = some (.int .i64 n) := ln_sl (e := 4) (by kernel_rfl) o n cs
@[go_sem] theorem T62ln2 (o k g off n) : aLen Try.prog o 62 (.ref k g off n) = some (.int .i64 n) := ln_ref (e := 4) (by kernel_rfl) o k g off n
@[go_sem] theorem T62ix1 (n cs i) : aIndexAddr Try.prog 62 (.sl n cs) i = if 0 ≤ i ∧ i < (n : Int) then some (.fptr (cs.drop (i.toNat * 1))) else none := ixs_sl (s := 1) (by kernel_rfl) n cs i
@[go_sem] theorem T62ix2 (k g off n i) : aIndexAddr Try.prog 62 (.ref k g off n) i = if 0 ≤ i ∧ i < (n : Int) then some (.ptr k g (off + i.toNat * 1)) else none := ixs_ref (s := 1) (by kernel_rfl) k g off n i
@[go_sem] theorem T62sl1 (n cs lo hi) : aSlice Try.prog 62 (.sl n cs) lo hi = if 0 ≤ lo.getD 0 ∧ lo.getD 0 ≤ hi.getD n ∧ hi.getD n ≤ n then some (.sl ((hi.getD n).toNat - (lo.getD 0).toNat) ((cs.take ((hi.getD n).toNat * 1)).drop ((lo.getD 0).toNat * 1))) else none := sl_sl (s := 1) (by kernel_rfl) n cs lo hi
@[go_sem] theorem T62sl2 (k g off n lo hi) : aSlice Try.prog 62 (.ref k g off n) lo hi = if 0 ≤ lo.getD 0 ∧ lo.getD 0 ≤ hi.getD n ∧ hi.getD n ≤ n then some (.ref k g (off + (lo.getD 0).toNat * 1) ((hi.getD n).toNat - (lo.getD 0).toNat)) else none := sl_ref (s := 0) (by kernel_rfl) k g off n lo hi
@[go_sem] theorem T62cp (k g off n x o nx) : aCopy Try.prog 62 (.ref k g off n) x ⟨o, nx⟩ = (srcOf o x).bind fun q => (rowIf (o k) g).bind (copyR k off n 1 q.1 q.2 o nx) := cp_ref (by kernel_rfl) k g off n x o nx
@[go_sem] theorem T62ms (tg l c o nx) : aMakeSlice Try.prog tg 62 l c ⟨o, nx⟩ = if 0 ≤ l ∧ l ≤ c ∧ c * 1 ≤ maxB ∧ c ≤ maxB then some (.ref tg tg 0 l.toNat, ⟨upd o tg (.row ⟨4, 1, tg, false, true, rep [AV.bool false] l.toNat⟩), nx⟩) else none := ms_eq (e := 4) (s := 0) (b := 1) (z := [AV.bool false]) (by kernel_rfl) (by kernel_rfl) (by kernel_rfl) (by kernel_rfl) rfl tg l c o nx
@[go_sem] theorem T62bs (tg n ps o nx) : aBuildSlice Try.prog tg 62 n ps ⟨o, nx⟩ = if n * 1 ≤ 16777216 then (fillA (fun i => some (i * 1, 1)) (rep [AV.bool false] n) ps).map (fun cs => (.ref tg tg 0 n, ⟨upd o tg (.row ⟨4, 1, tg, false, true, cs⟩), nx⟩)) else none := bs_eq (e := 4) (s := 0) (z := [AV.bool false]) (by kernel_rfl) (by kernel_rfl) (by kernel_rfl) rfl tg n ps o nx
@[go_sem] theorem T62ap (tg x y o nx) : aAppend Try.prog tg 62 62 x y ⟨o, nx⟩ = (srcOf o y).bind fun q => appW tg 4 1 1 x q.1 q.2 o nx := ap_eq (e := 4) (s := 0) (b := 0) (z := [AV.bool false]) (by kernel_rfl) (by kernel_rfl) (by kernel_rfl) (by kernel_rfl) rfl (by kernel_rfl) tg x y o nx
@[go_sem] theorem T66s : tSize Try.prog 66 = some 2 := by kernel_rfl
@[go_sem] theorem T66a : tAgg Try.prog 66 = some true := by kernel_rfl
@[go_sem] theorem T66z : tZero Try.prog 66 = some [AV.int .i64 0, AV.int .i64 0] := by kernel_rfl
@[go_sem] theorem T66ln (o x) : aLen Try.prog o 66 x = some (.int .i64 2) := ln_arr (e := 3) (by kernel_rfl) o x
@[go_sem] theorem T66ix1 (cs i) : aIndexAddr Try.prog 66 (.fptr cs) i = if 0 ≤ i ∧ i < 2 then some (.fptr (cs.drop (i.toNat * 1))) else none := ixa_fptr (n := 2) (e := 3) (s := 1) (by kernel_rfl) (by kernel_rfl) cs i
@[go_sem] theorem T66ix2 (k g off i) : aIndexAddr Try.prog 66 (.ptr k g off) i = if 0 ≤ i ∧ i < 2 then some (.ptr k g (off + i.toNat * 1)) else none := ixa_ptr (n := 2) (e := 3) (s := 1) (by kernel_rfl) (by kernel_rfl) k g off i
@[go_sem] theorem T66iv (cs i) : aIndex Try.prog 66 (.agg cs) i = if 0 ≤ i ∧ i < 2 then takeT Try.prog 3 (cs.drop (i.toNat * 1)) else none := ixv_agg (n := 2) (e := 3) (s := 1) (by kernel_rfl) (by kernel_rfl) cs i
@[go_sem] theorem T66bd (xs) : aBuild Try.prog 66 xs = (fillA (fun i => some (i * 1, 1)) [AV.int .i64 0, AV.int .i64 0] xs).map .agg := bd_array (n := 2) (e := 3) (by kernel_rfl) (by kernel_rfl) (by kernel_rfl) xs
@[go_sem] theorem T66lf : eqLeaves Try.prog 66 = some [Leaf.int, Leaf.int] := by kernel_rfl
@[go_sem] theorem T67s : tSize Try.prog 67 = some 1 := by kernel_rfl
@[go_sem] theorem T67a : tAgg Try.prog 67 = some false := by kernel_rfl
@[go_sem] theorem T67z : tZero Try.prog 67 = some [AV.int .u64 0] := by kernel_rfl
@[go_sem] theorem T67u : Try.prog.underlying 67 = some (.int .u64) := by kernel_rfl
@[go_sem] theorem T69s : tSize Try.prog 69 = some 1 := by kernel_rfl
@[go_sem] theorem T69a : tAgg Try.prog 69 = some false := by kernel_rfl
@[go_sem] theorem T69z : tZero Try.prog 69 = some [AV.nil] := by kernel_rfl
@[go_sem] theorem T69ln0 (o) : aLen Try.prog o 69 .nil = some (.int .i64 0) := ln_nil (e := 51) (by kernel_rfl) o
@[go_sem] theorem T69ln1 (o n cs) : aLen Try.prog o 69 (.sl n cs) = some (.int .i64 n) := ln_sl (e := 51) (by kernel_rfl) o n cs
@[go_sem] theorem T69ln2 (o k g off n) : aLen Try.prog o 69 (.ref k g off n) = some (.int .i64 n) := ln_ref (e := 51) (by kernel_rfl) o k g off n
@[go_sem] theorem T69ix1 (n cs i) : aIndexAddr Try.prog 69 (.sl n cs) i = if 0 ≤ i ∧ i < (n : Int) then some (.fptr (cs.drop (i.toNat * 2))) else none := ixs_sl (s := 2) (by kernel_rfl) n cs i
@[go_sem] theorem T69ix2 (k g off n i) : aIndexAddr Try.prog 69 (.ref k g off n) i = if 0 ≤ i ∧ i < (n : Int) then some (.ptr k g (off + i.toNat * 2)) else none := ixs_ref (s := 2) (by kernel_rfl) k g off n i
@[go_sem] theorem T69sl1 (n cs lo hi) : aSlice Try.prog 69 (.sl n cs) lo hi = if 0 ≤ lo.getD 0 ∧ lo.getD 0 ≤ hi.getD n ∧ hi.getD n ≤ n then some (.sl ((hi.getD n).toNat - (lo.getD 0).toNat) ((cs.take ((hi.getD n).toNat * 2)).drop ((lo.getD 0).toNat * 2))) else none := sl_sl (s := 2) (by kernel_rfl) n cs lo hi
@[go_sem] theorem T69sl2 (k g off n lo hi) : aSlice Try.prog 69 (.ref k g off n) lo hi = if 0 ≤ lo.getD 0 ∧ lo.getD 0 ≤ hi.getD n ∧ hi.getD n ≤ n then some (.ref k g (off + (lo.getD 0).toNat * 2) ((hi.getD n).toNat - (lo.getD 0).toNat)) else none := sl_ref (s := 1) (by kernel_rfl) k g off n lo hi
@[go_sem] theorem T69cp (k g off n x o nx) : aCopy Try.prog 69 (.ref k g off n) x ⟨o, nx⟩ = (srcOf o x).bind fun q => (rowIf (o k) g).bind (copyR k off n 2 q.1 q.2 o nx) := cp_ref (by kernel_rfl) k g off n x o nx
@[go_sem] theorem T69ms (tg l c o nx) : aMakeSlice Try.prog tg 69 l c ⟨o, nx⟩ = if 0 ≤ l ∧ l ≤ c ∧ c * 16 ≤ maxB ∧ c ≤ maxB then some (.ref tg tg 0 l.toNat, ⟨upd o tg (.row ⟨51, 2, tg, false, true, rep [AV.int .i64 0, AV.int .i64 0] l.toNat⟩), nx⟩) else none := ms_eq (e := 51) (s := 1) (b := 16) (z := [AV.int .i64 0, AV.int .i64 0]) (by kernel_rfl) (by kernel_rfl) (by kernel_rfl) (by kernel_rfl) rfl tg l c o nx
@[go_sem] theorem T69bs (tg n ps o nx) : aBuildSlice Try.prog tg 69 n ps ⟨o, nx⟩ = if n * 2 ≤ 16777216 then (fillA (fun i => some (i * 2, 2)) (rep [AV.int .i64 0, AV.int .i64 0] n) ps).map (fun cs => (.ref tg tg 0 n, ⟨upd o tg (.row ⟨51, 2, tg, false, true, cs⟩), nx⟩)) else none := bs_eq (e := 51) (s := 1) (z := [AV.int .i64 0, AV.int .i64 0]) (by kernel_rfl) (by kernel_rfl) (by kernel_rfl) rfl tg n ps o nx
@[go_sem] theorem T69ap (tg x y o nx) : aAppend Try.prog tg 69 69 x y ⟨o, nx⟩ = (srcOf o y).bind fun q => appW tg 51 2 16 x q.1 q.2 o nx := ap_eq (e := 51) (s := 1) (b := 15) (z := [AV.int .i64 0, AV.int .i64 0]) (by kernel_rfl) (by kernel_rfl) (by kernel_rfl) (by kernel_rfl) rfl (by kernel_rfl) tg x y o nx
@[go_sem] theorem T78s : tSize Try.prog 78 = some 4 := by kernel_rfl
@[go_sem] theorem T78a : tAgg Try.prog 78 = some true := by kernel_rfl
@[go_sem] theorem T78z : tZero Try.prog 78 = some [AV.nilp, AV.nilp, AV.nilp, AV.str []] := by kernel_rfl
@[go_sem] theorem T78f0p (k g off) : fieldAddrA Try.prog 78 0 (.ptr k g off) = some (.ptr k g (off + 0)) := fa_ptr (s := 0) (ft := 17) (by kernel_rfl) (by kernel_rfl) k g off
@[go_sem] theorem T78f0q (cs) : fieldAddrA Try.prog 78 0 (.fptr cs) = some (.fptr (cs.drop 0)) := fa_fptr (s := 0) (ft := 17) (by kernel_rfl) (by kernel_rfl) cs
@[go_sem] theorem T78f0v (cs) : fieldA Try.prog 78 0 (.agg cs) = takeT Try.prog 17 (cs.drop 0) := fi_agg (by kernel_rfl) cs
@[go_sem] theorem T78f1p (k g off) : fieldAddrA Try.prog 78 1 (.ptr k g off) = some (.ptr k g (off + 1)) := fa_ptr (s := 0) (ft := 17) (by kernel_rfl) (by kernel_rfl) k g off
@[go_sem] theorem T78f1q (cs) : fieldAddrA Try.prog 78 1 (.fptr cs) = some (.fptr (cs.drop 1)) := fa_fptr (s := 0) (ft := 17) (by kernel_rfl) (by kernel_rfl) cs
@[go_sem] theorem T78f1v (cs) : fieldA Try.prog 78 1 (.agg cs) = takeT Try.prog 17 (cs.drop 1) := fi_agg (by kernel_rfl) cs
@[go_sem] theorem T78f2p (k g off) : fieldAddrA Try.prog 78 2 (.ptr k g off) = some (.ptr k g (off + 2)) := fa_ptr (s := 0) (ft := 17) (by kernel_rfl) (by kernel_rfl) k g off
@[go_sem] theorem T78f2q (cs) : fieldAddrA Try.prog 78 2 (.fptr cs) = some (.fptr (cs.drop 2)) := fa_fptr (s := 0) (ft := 17) (by kernel_rfl) (by kernel_rfl) cs
@[go_sem] theorem T78f2v (cs) : fieldA Try.prog 78 2 (.agg cs) = takeT Try.prog 17 (cs.drop 2) := fi_agg (by kernel_rfl) cs
@[go_sem] theorem T78f3p (k g off) : fieldAddrA Try.prog 78 3 (.ptr k g off) = some (.ptr k g (off + 3)) := fa_ptr (s := 0) (ft := 9) (by kernel_rfl) (by kernel_rfl) k g off
@[go_sem] theorem T78f3q (cs) : fieldAddrA Try.prog 78 3 (.fptr cs) = some (.fptr (cs.drop 3)) := fa_fptr (s := 0) (ft := 9) (by kernel_rfl) (by kernel_rfl) cs
@[go_sem] theorem T78f3v (cs) : fieldA Try.prog 78 3 (.agg cs) = takeT Try.prog 9 (cs.drop 3) := fi_agg (by kernel_rfl) cs
@[go_sem] theorem T78bd (xs) : aBuild Try.prog 78 xs = (fillA (fun i => ([(0, 1), (1, 1), (2, 1), (3, 1)] : List (Nat × Nat))[i]?) [AV.nilp, AV.nilp, AV.nilp, AV.str []] xs).map .agg := by kernel_rfl
@[go_sem] theorem T79s : tSize Try.prog 79 = some 4 := by kernel_rfl
@[go_sem] theorem T79a : tAgg Try.prog 79 = some true := by kernel_rfl
@[go_sem] theorem T79z : tZero Try.prog 79 = some [AV.nilp, AV.nilp, AV.nilp, AV.str []] := by kernel_rfl
@[go_sem] theorem T79f0p (k g off) : fieldAddrA Try.prog 79 0 (.ptr k g off) = some (.ptr k g (off + 0)) := fa_ptr (s := 0) (ft := 17) (by kernel_rfl) (by kernel_rfl) k g off
@[go_sem] theorem T79f0q (cs) : fieldAddrA Try.prog 79 0 (.fptr cs) = some (.fptr (cs.drop 0)) := fa_fptr (s := 0) (ft := 17) (by kernel_rfl) (by kernel_rfl) cs
@[go_sem] theorem T79f0v (cs) : fieldA Try.prog 79 0 (.agg cs) = takeT Try.prog 17 (cs.drop 0) := fi_agg (by kernel_rfl) cs
@[go_sem] theorem T79f1p (k g off) : fieldAddrA Try.prog 79 1 (.ptr k g off) = some (.ptr k g (off + 1)) := fa_ptr (s := 0) (ft := 17) (by kernel_rfl) (by kernel_rfl) k g off
@[go_sem] theorem T79f1q (cs) : fieldAddrA Try.prog 79 1 (.fptr cs) = some (.fptr (cs.drop 1)) := fa_fptr (s := 0) (ft := 17) (by kernel_rfl) (by kernel_rfl) cs
@[go_sem] theorem T79f1v (cs) : fieldA Try.prog 79 1 (.agg cs) = takeT Try.prog 17 (cs.drop 1) := fi_agg (by kernel_rfl) cs
@[go_sem] theorem T79f2p (k g off) : fieldAddrA Try.prog 79 2 (.ptr k g off) = some (.ptr k g (off + 2)) := fa_ptr (s := 0) (ft := 17) (by kernel_rfl) (by kernel_rfl) k g off
@[go_sem] theorem T79f2q (cs) : fieldAddrA Try.prog 79 2 (.fptr cs) = some (.fptr (cs.drop 2)) := fa_fptr (s := 0) (ft := 17) (by kernel_rfl) (by kernel_rfl) cs
@[go_sem] theorem T79f2v (cs) : fieldA Try.prog 79 2 (.agg cs) = takeT Try.prog 17 (cs.drop 2) := fi_agg (by kernel_rfl) cs
@[go_sem] theorem T79f3p (k g off) : fieldAddrA Try.prog 79 3 (.ptr k g off) = some (.ptr k g (off + 3)) := fa_ptr (s := 0) (ft := 9) (by kernel_rfl) (by kernel_rfl) k g off
@[go_sem] theorem T79f3q (cs) : fieldAddrA Try.prog 79 3 (.fptr cs) = some (.fptr (cs.drop 3)) := fa_fptr (s := 0) (ft := 9) (by kernel_rfl) (by kernel_rfl) cs
@[go_sem] theorem T79f3v (cs) : fieldA Try.prog 79 3 (.agg cs) = takeT Try.prog 9 (cs.drop 3) := fi_agg (by kernel_rfl) cs
@[go_sem] theorem T79bd (xs) : aBuild Try.prog 79 xs = (fillA (fun i => ([(0, 1), (1, 1), (2, 1), (3, 1)] : List (Nat × Nat))[i]?) [AV.nilp, AV.nilp, AV.nilp, AV.str []] xs).map .agg := by kernel_rfl
@[go_sem] theorem T80s : tSize Try.prog 80 = some 0 := by kernel_rfl
@[go_sem] theorem T80a : tAgg Try.prog 80 = some true := by kernel_rfl
@[go_sem] theorem T80z : tZero Try.prog 80 = some [] := by kernel_rfl
@[go_sem] theorem T80ln (o x) : aLen Try.prog o 80 x = some (.int .i64 0) := ln_arr (e := 16) (by kernel_rfl) o x
@[go_sem] theorem T80ix1 (cs i) : aIndexAddr Try.prog 80 (.fptr cs) i = if 0 ≤ i ∧ i < 0 then some (.fptr (cs.drop (i.toNat * 1))) else none := ixa_fptr (n := 0) (e := 16) (s := 1) (by kernel_rfl) (by kernel_rfl) cs i
@[go_sem] theorem T80ix2 (k g off i) : aIndexAddr Try.prog 80 (.ptr k g off) i = if 0 ≤ i ∧ i < 0 then some (.ptr k g (off + i.toNat * 1)) else none := ixa_ptr (n := 0) (e := 16) (s := 1) (by kernel_rfl) (by kernel_rfl) k g off i
@[go_sem] theorem T80iv (cs i) : aIndex Try.prog 80 (.agg cs) i = if 0 ≤ i ∧ i < 0 then takeT Try.prog 16 (cs.drop (i.toNat * 1)) else none := ixv_agg (n := 0) (e := 16) (s := 1) (by kernel_rfl) (by kernel_rfl) cs i
@[go_sem] theorem T80bd (xs) : aBuild Try.prog 80 xs = (fillA (fun i => some (i * 1, 1)) [] xs).map .agg := bd_array (n := 0) (e := 16) (by kernel_rfl) (by kernel_rfl) (by kernel_rfl) xs
@[go_sem] theorem T81s : tSize Try.prog 81 = some 0 := by kernel_rfl
@[go_sem] theorem T81a : tAgg Try.prog 81 = some true := by kernel_rfl
@[go_sem] theorem T81z : tZero Try.prog 81 = some [] := by kernel_rfl
@[go_sem] theorem T81bd (xs) : aBuild Try.prog 81 xs = (fillA (fun i => ([(0, 0)] : List (Nat × Nat))[i]?) [] xs).map .agg := by kernel_rfl
@[go_sem] theorem T82s : tSize Try.prog 82 = some 0 := by kernel_rfl
@[go_sem] theorem T82a : tAgg Try.prog 82 = some true := by kernel_rfl
@[go_sem] theorem T82z : tZero Try.prog 82 = some [] := by kernel_rfl
@[go_sem] theorem T82bd (xs) : aBuild Try.prog 82 xs = (fillA (fun i => ([(0, 0)] : List (Nat × Nat))[i]?) [] xs).map .agg := by kernel_rfl
@[go_sem] theorem T83s : tSize Try.prog 83 = some 1 := by kernel_rfl
@[go_sem] theorem T83a : tAgg Try.prog 83 = some false := by kernel_rfl
@[go_sem] theorem T83z : tZero Try.prog 83 = some [AV.int .u32 0] := by kernel_rfl
@[go_sem] theorem T83u : Try.prog.underlying 83 = some (.int .u32) := by kernel_rfl
@[go_sem] theorem T84s : tSize Try.prog 84 = some 1 := by kernel_rfl
@[go_sem] theorem T84a : tAgg Try.prog 84 = some false := by kernel_rfl
@[go_sem] theorem T84z : tZero Try.prog 84 = some [AV.int .u8 0] := by kernel_rfl
@[go_sem] theorem T84u : Try.prog.underlying 84 = some (.int .u8) := by kernel_rfl
@[go_sem] theorem T85s : tSize Try.prog 85 = some 1 := by kernel_rfl
@[go_sem] theorem T85a : tAgg Try.prog 85 = some false := by kernel_rfl
@[go_sem] theorem T85z : tZero Try.prog 85 = some [AV.int .u8 0] := by kernel_rfl
@[go_sem] theorem T85u : Try.prog.underlying 85 = some (.int .u8) := by kernel_rfl
@[go_sem] theorem T87s : tSize Try.prog 87 = some 1 := by kernel_rfl
@[go_sem] theorem T87a : tAgg Try.prog 87 = some false := by kernel_rfl
@[go_sem] theorem T87z : tZero Try.prog 87 = some [AV.nilp] := by kernel_rfl
@[go_sem] theorem T88s : tSize Try.prog 88 = some 1 := by kernel_rfl
@[go_sem] theorem T88a : tAgg Try.prog 88 = some false := by kernel_rfl
@[go_sem] theorem T88z : tZero Try.prog 88 = some [AV.int .i32 0] := by kernel_rfl
@[go_sem] theorem T88u : Try.prog.underlying 88 = some (.int .i32) := by kernel_rfl
@[go_sem] theorem T89s : tSize Try.prog 89 = some 1 := by kernel_rfl
@[go_sem] theorem T89a : tAgg Try.prog 89 = some false := by kernel_rfl
@[go_sem] theorem T89z : tZero Try.prog 89 = some [AV.int .i32 0] := by kernel_rfl
@[go_sem] theorem T89u : Try.prog.underlying 89 = some (.int .i32) := by kernel_rfl
@[go_sem] theorem T90s : tSize Try.prog 90 = some 11 := by kernel_rfl
@[go_sem] theorem T90a : tAgg Try.prog 90 = some true := by kernel_rfl
@[go_sem] theorem T90f0p (k g off) : fieldAddrA Try.prog 90 0 (.ptr k g off) = some (.ptr k g (off + 0)) := fa_ptr (s := 0) (ft := 12) (by kernel_rfl) (by kernel_rfl) k g off
@[go_sem] theorem T90f0q (cs) : fieldAddrA Try.prog 90 0 (.fptr cs) = some (.fptr (cs.drop 0)) := fa_fptr (s := 0) (ft := 12) (by kernel_rfl) (by kernel_rfl) cs
@[go_sem] theorem T90f0v (cs) : fieldA Try.prog 90 0 (.agg cs) = takeT Try.prog 12 (cs.drop 0) := fi_agg (by kernel_rfl) cs
@[go_sem] theorem T90f1p (k g off) : fieldAddrA Try.prog 90 1 (.ptr k g off) = some (.ptr k g (off + 1)) := fa_ptr (s := 0) (ft := 12) (by kernel_rfl) (by kernel_rfl) k g off
@[go_sem] theorem T90f1q (cs) : fieldAddrA Try.prog 90 1 (.fptr cs) = some (.fptr (cs.drop 1)) := fa_fptr (s := 0) (ft := 12) (by kernel_rfl) (by kernel_rfl) cs
@[go_sem] theorem T90f1v (cs) : fieldA Try.prog 90 1 (.agg cs) = takeT Try.prog 12 (cs.drop 1) := fi_agg (by kernel_rfl) cs
@[go_sem] theorem T90f2p (k g off) : fieldAddrA Try.prog 90 2 (.ptr k g off) = some (.ptr k g (off + 2)) := fa_ptr (s := 0) (ft := 83) (by kernel_rfl) (by kernel_rfl) k g off
@[go_sem] theorem T90f2q (cs) : fieldAddrA Try.prog 90 2 (.fptr cs) = some (.fptr (cs.drop 2)) := fa_fptr (s := 0) (ft := 83) (by kernel_rfl) (by kernel_rfl) cs
@[go_sem] theorem T90f2v (cs) : fieldA Try.prog 90 2 (.agg cs) = takeT Try.prog 83 (cs.drop 2) := fi_agg (by kernel_rfl) cs
@[go_sem] theorem T90f3p (k g off) : fieldAddrA Try.prog 90 3 (.ptr k g off) = some (.ptr k g (off + 3)) := fa_ptr (s := 0) (ft := 84) (by kernel_rfl) (by kernel_rfl) k g off
@[go_sem] theorem T90f3q (cs) : fieldAddrA Try.prog 90 3 (.fptr cs) = some (.fptr (cs.drop 3)) := fa_fptr (s := 0) (ft := 84) (by kernel_rfl) (by kernel_rfl) cs
@[go_sem] theorem T90f3v (cs) : fieldA Try.prog 90 3 (.agg cs) = takeT Try.prog 84 (cs.drop 3) := fi_agg (by kernel_rfl) cs
@[go_sem] theorem T90f4p (k g off) : fieldAddrA Try.prog 90 4 (.ptr k g off) = some (.ptr k g (off + 4)) := fa_ptr (s := 0) (ft := 5) (by kernel_rfl) (by kernel_rfl) k g off
@[go_sem] theorem T90f4q (cs) : fieldAddrA Try.prog 90 4 (.fptr cs) = some (.fptr (cs.drop 4)) := fa_fptr (s := 0) (ft := 5) (by kernel_rfl) (by kernel_rfl) cs
@[go_sem] theorem T90f4v (cs) : fieldA Try.prog 90 4 (.agg cs) = takeT Try.prog 5 (cs.drop 4) := fi_agg (by kernel_rfl) cs
@[go_sem] theorem T90f5p (k g off) : fieldAddrA Try.prog 90 5 (.ptr k g off) = some (.ptr k g (off + 5)) := fa_ptr (s := 0) (ft := 5) (by kernel_rfl) (by kernel_rfl) k g off
@[go_sem] theorem T90f5q (cs) : fieldAddrA Try.prog 90 5 (.fptr cs) = some (.fptr (cs.drop 5)) := fa_fptr (s := 0) (ft := 5) (by kernel_rfl) (by kernel_rfl) cs
@[go_sem] theorem T90f5v (cs) : fieldA Try.prog 90 5 (.agg cs) = takeT Try.prog 5 (cs.drop 5) := fi_agg (by kernel_rfl) cs
@[go_sem] theorem T90f6p (k g off) : fieldAddrA Try.prog 90 6 (.ptr k g off) = some (.ptr k g (off + 6)) := fa_ptr (s := 0) (ft := 85) (by kernel_rfl) (by kernel_rfl) k g off
@[go_sem] theorem T90f6q (cs) : fieldAddrA Try.prog 90 6 (.fptr cs) = some (.fptr (cs.drop 6)) := fa_fptr (s := 0) (ft := 85) (by kernel_rfl) (by kernel_rfl) cs
@[go_sem] theorem T90f6v (cs) : fieldA Try.prog 90 6 (.agg cs) = takeT Try.prog 85 (cs.drop 6) := fi_agg (by kernel_rfl) cs
@[go_sem] theorem T90f7p (k g off) : fieldAddrA Try.prog 90 7 (.ptr k g off) = some (.ptr k g (off + 7)) := fa_ptr (s := 0) (ft := 86) (by kernel_rfl) (by kernel_rfl) k g off
@[go_sem] theorem T90f7q (cs) : fieldAddrA Try.prog 90 7 (.fptr cs) = some (.fptr (cs.drop 7)) := fa_fptr (s := 0) (ft := 86) (by kernel_rfl) (by kernel_rfl) cs
@[go_sem] theorem T90f7v (cs) : fieldA Try.prog 90 7 (.agg cs) = takeT Try.prog 86 (cs.drop 7) := fi_agg (by kernel_rfl) cs
@[go_sem] theorem T90f8p (k g off) : fieldAddrA Try.prog 90 8 (.ptr k g off) = some (.ptr k g (off + 8)) := fa_ptr (s := 0) (ft := 87) (by kernel_rfl) (by kernel_rfl) k g off
@[go_sem] theorem T90f8q (cs) : fieldAddrA Try.prog 90 8 (.fptr cs) = some (.fptr (cs.drop 8)) := fa_fptr (s := 0) (ft := 87) (by kernel_rfl) (by kernel_rfl) cs
@[go_sem] theorem T90f8v (cs) : fieldA Try.prog 90 8 (.agg cs) = takeT Try.prog 87 (cs.drop 8) := fi_agg (by kernel_rfl) cs
@[go_sem] theorem T90f9p (k g off) : fieldAddrA Try.prog 90 9 (.ptr k g off) = some (.ptr k g (off + 9)) := fa_ptr (s := 0) (ft := 88) (by kernel_rfl) (by kernel_rfl) k g off
@[go_sem] theorem T90f9q (cs) : fieldAddrA Try.prog 90 9 (.fptr cs) = some (.fptr (cs.drop 9)) := fa_fptr (s := 0) (ft := 88) (by kernel_rfl) (by kernel_rfl) cs
@[go_sem] theorem T90f9v (cs) : fieldA Try.prog 90 9 (.agg cs) = takeT Try.prog 88 (cs.drop 9) := fi_agg (by kernel_rfl) cs
@[go_sem] theorem T90f10p (k g off) : fieldAddrA Try.prog 90 10 (.ptr k g off) = some (.ptr k g (off + 10)) := fa_ptr (s := 0) (ft := 89) (by kernel_rfl) (by kernel_rfl) k g off
@[go_sem] theorem T90f10q (cs) : fieldAddrA Try.prog 90 10 (.fptr cs) = some (.fptr (cs.drop 10)) := fa_fptr (s := 0) (ft := 89) (by kernel_rfl) (by kernel_rfl) cs
@[go_sem] theorem T90f10v (cs) : fieldA Try.prog 90 10 (.agg cs) = takeT Try.prog 89 (cs.drop 10) := fi_agg (by kernel_rfl) cs
@[go_sem] theorem T91s : tSize Try.prog 91 = some 11 := by kernel_rfl
@[go_sem] theorem T91a : tAgg Try.prog 91 = some true := by kernel_rfl
@[go_sem] theorem T91f0p (k g off) : fieldAddrA Try.prog 91 0 (.ptr k g off) = some (.ptr k g (off + 0)) := fa_ptr (s := 0) (ft := 12) (by kernel_rfl) (by kernel_rfl) k g off
@[go_sem] theorem T91f0q (cs) : fieldAddrA Try.prog 91 0 (.fptr cs) = some (.fptr (cs.drop 0)) := fa_fptr (s := 0) (ft := 12) (by kernel_rfl) (by kernel_rfl) cs
@[go_sem] theorem T91f0v (cs) : fieldA Try.prog 91 0 (.agg cs) = takeT Try.prog 12 (cs.drop 0) := fi_agg (by kernel_rfl) cs
@[go_sem] theorem T91f1p (k g off) : fieldAddrA Try.prog 91 1 (.ptr k g off) = some (.ptr k g (off + 1)) := fa_ptr (s := 0) (ft := 12) (by kernel_rfl) (by kernel_rfl) k g off
@[go_sem] theorem T91f1q (cs) : fieldAddrA Try.prog 91 1 (.fptr cs) = some (.fptr (cs.drop 1)) := fa_fptr (s := 0) (ft := 12) (by kernel_rfl) (by kernel_rfl) cs
@[go_sem] theorem T91f1v (cs) : fieldA Try.prog 91 1 (.agg cs) = takeT Try.prog 12 (cs.drop 1) := fi_agg (by kernel_rfl) cs
@[go_sem] theorem T91f2p (k g off) : fieldAddrA Try.prog 91 2 (.ptr k g off) = some (.ptr k g (off + 2)) := fa_ptr (s := 0) (ft := 83) (by kernel_rfl) (by kernel_rfl) k g off
@[go_sem] theorem T91f2q (cs) : fieldAddrA Try.prog 91 2 (.fptr cs) = some (.fptr (cs.drop 2)) := fa_fptr (s := 0) (ft := 83) (by kernel_rfl) (by kernel_rfl) cs
@[go_sem] theorem T91f2v (cs) : fieldA Try.prog 91 2 (.agg cs) = takeT Try.prog 83 (cs.drop 2) := fi_agg (by kernel_rfl) cs
@[go_sem] theorem T91f3p (k g off) : fieldAddrA Try.prog 91 3 (.ptr k g off) = some (.ptr k g (off + 3)) := fa_ptr (s := 0) (ft := 84) (by kernel_rfl) (by kernel_rfl) k g off
@[go_sem] theorem T91f3q (cs) : fieldAddrA Try.prog 91 3 (.fptr cs) = some (.fptr (cs.drop 3)) := fa_fptr (s := 0) (ft := 84) (by kernel_rfl) (by kernel_rfl) cs
@[go_sem] theorem T91f3v (cs) : fieldA Try.prog 91 3 (.agg cs) = takeT Try.prog 84 (cs.drop 3) := fi_agg (by kernel_rfl) cs
@[go_sem] theorem T91f4p (k g off) : fieldAddrA Try.prog 91 4 (.ptr k g off) = some (.ptr k g (off + 4)) := fa_ptr (s := 0) (ft := 5) (by kernel_rfl) (by kernel_rfl) k g off
@[go_sem] theorem T91f4q (cs) : fieldAddrA Try.prog 91 4 (.fptr cs) = some (.fptr (cs.drop 4)) := fa_fptr (s := 0) (ft := 5) (by kernel_rfl) (by kernel_rfl) cs
@[go_sem] theorem T91f4v (cs) : fieldA Try.prog 91 4 (.agg cs) = takeT Try.prog 5 (cs.drop 4) := fi_agg (by kernel_rfl) cs
@[go_sem] theorem T91f5p (k g off) : fieldAddrA Try.prog 91 5 (.ptr k g off) = some (.ptr k g (off + 5)) := fa_ptr (s := 0) (ft := 5) (by kernel_rfl) (by kernel_rfl) k g off
@[go_sem] theorem T91f5q (cs) : fieldAddrA Try.prog 91 5 (.fptr cs) = some (.fptr (cs.drop 5)) := fa_fptr (s := 0) (ft := 5) (by kernel_rfl) (by kernel_rfl) cs
@[go_sem] theorem T91f5v (cs) : fieldA Try.prog 91 5 (.agg cs) = takeT Try.prog 5 (cs.drop 5) := fi_agg (by kernel_rfl) cs
@[go_sem] theorem T91f6p (k g off) : fieldAddrA Try.prog 91 6 (.ptr k g off) = some (.ptr k g (off + 6)) := fa_ptr (s := 0) (ft := 85) (by kernel_rfl) (by kernel_rfl) k g off
@[go_sem] theorem T91f6q (cs) : fieldAddrA Try.prog 91 6 (.fptr cs) = some (.fptr (cs.drop 6)) := fa_fptr (s := 0) (ft := 85) (by kernel_rfl) (by kernel_rfl) cs
@[go_sem] theorem T91f6v (cs) : fieldA Try.prog 91 6 (.agg cs) = takeT Try.prog 85 (cs.drop 6) := fi_agg (by kernel_rfl) cs
@[go_sem] theorem T91f7p (k g off) : fieldAddrA Try.prog 91 7 (.ptr k g off) = some (.ptr k g (off + 7)) := fa_ptr (s := 0) (ft := 86) (by kernel_rfl) (by kernel_rfl) k g off
@[go_sem] theorem T91f7q (cs) : fieldAddrA Try.prog 91 7 (.fptr cs) = some (.fptr (cs.drop 7)) := fa_fptr (s := 0) (ft := 86) (by kernel_rfl) (by kernel_rfl) cs
@[go_sem] theorem T91f7v (cs) : fieldA Try.prog 91 7 (.agg cs) = takeT Try.prog 86 (cs.drop 7) := fi_agg (by kernel_rfl) cs
@[go_sem] theorem T91f8p (k g off) : fieldAddrA Try.prog 91 8 (.ptr k g off) = some (.ptr k g (off + 8)) := fa_ptr (s := 0) (ft := 87) (by kernel_rfl) (by kernel_rfl) k g off
@[go_sem] theorem T91f8q (cs) : fieldAddrA Try.prog 91 8 (.fptr cs) = some (.fptr (cs.drop 8)) := fa_fptr (s := 0) (ft := 87) (by kernel_rfl) (by kernel_rfl) cs
@[go_sem] theorem T91f8v (cs) : fieldA Try.prog 91 8 (.agg cs) = takeT Try.prog 87 (cs.drop 8) := fi_agg (by kernel_rfl) cs
@[go_sem] theorem T91f9p (k g off) : fieldAddrA Try.prog 91 9 (.ptr k g off) = some (.ptr k g (off + 9)) := fa_ptr (s := 0) (ft := 88) (by kernel_rfl) (by kernel_rfl) k g off
@[go_sem] theorem T91f9q (cs) : fieldAddrA Try.prog 91 9 (.fptr cs) = some (.fptr (cs.drop 9)) := fa_fptr (s := 0) (ft := 88) (by kernel_rfl) (by kernel_rfl) cs
@[go_sem] theorem T91f9v (cs) : fieldA Try.prog 91 9 (.agg cs) = takeT Try.prog 88 (cs.drop 9) := fi_agg (by kernel_rfl) cs
@[go_sem] theorem T91f10p (k g off) : fieldAddrA Try.prog 91 10 (.ptr k g off) = some (.ptr k g (off + 10)) := fa_ptr (s := 0) (ft := 89) (by kernel_rfl) (by kernel_rfl) k g off
@[go_sem] theorem T91f10q (cs) : fieldAddrA Try.prog 91 10 (.fptr cs) = some (.fptr (cs.drop 10)) := fa_fptr (s := 0) (ft := 89) (by kernel_rfl) (by kernel_rfl) cs
@[go_sem] theorem T91f10v (cs) : fieldA Try.prog 91 10 (.agg cs) = takeT Try.prog 89 (cs.drop 10) := fi_agg (by kernel_rfl) cs
@[go_sem] theorem C2_3 (tg k n o nx) : aConvert Try.prog tg 2 3 (.int k n) ⟨o, nx⟩ = some (.int .i64 (IntKind.wrap .i64 n), ⟨o, nx⟩) := cv_int (td := .int .i64) (by kernel_rfl) (by kernel_rfl) tg k n o nx
@[go_sem] theorem C2_5 (tg k n o nx) : aConvert Try.prog tg 2 5 (.int k n) ⟨o, nx⟩ = some (.int .u8 (IntKind.wrap .u8 n), ⟨o, nx⟩) := cv_int (td := .int .i64) (by kernel_rfl) (by kernel_rfl) tg k n o nx
@[go_sem] theorem C2_34 (tg k n o nx) : aConvert Try.prog tg 2 34 (.int k n) ⟨o, nx⟩ = some (.int .i64 (IntKind.wrap .i64 n), ⟨o, nx⟩) := cv_int (td := .int .i64) (by kernel_rfl) (by kernel_rfl) tg k n o nx
@[go_sem] theorem C2_67 (tg k n o nx) : aConvert Try.prog tg 2 67 (.int k n) ⟨o, nx⟩ = some (.int .u64 (IntKind.wrap .u64 n), ⟨o, nx⟩) := cv_int (td := .int .i64) (by kernel_rfl) (by kernel_rfl) tg k n o nx
@[go_sem] theorem C2_83 (tg k n o nx) : aConvert Try.prog tg 2 83 (.int k n) ⟨o, nx⟩ = some (.int .u32 (IntKind.wrap .u32 n), ⟨o, nx⟩) := cv_int (td := .int .i64) (by kernel_rfl) (by kernel_rfl) tg k n o nx
@[go_sem] theorem C3_2 (tg k n o nx) : aConvert Try.prog tg 3 2 (.int k n) ⟨o, nx⟩ = some (.int .i64 (IntKind.wrap .i64 n), ⟨o, nx⟩) := cv_int (td := .int .i64) (by kernel_rfl) (by kernel_rfl) tg k n o nx
@[go_sem] theorem C3_5 (tg k n o nx) : aConvert Try.prog tg 3 5 (.int k n) ⟨o, nx⟩ = some (.int .u8 (IntKind.wrap .u8 n), ⟨o, nx⟩) := cv_int (td := .int .i64) (by kernel_rfl) (by kernel_rfl) tg k n o nx
@[go_sem] theorem C3_34 (tg k n o nx) : aConvert Try.prog tg 3 34 (.int k n) ⟨o, nx⟩ = some (.int .i64 (IntKind.wrap .i64 n), ⟨o, nx⟩) := cv_int (td := .int .i64) (by kernel_rfl) (by kernel_rfl) tg k n o nx
@[go_sem] theorem C3_67 (tg k n o nx) : aConvert Try.prog tg 3 67 (.int k n) ⟨o, nx⟩ = some (.int .u64 (IntKind.wrap .u64 n), ⟨o, nx⟩) := cv_int (td := .int .i64) (by kernel_rfl) (by kernel_rfl) tg k n o nx
@[go_sem] theorem C3_83 (tg k n o nx) : aConvert Try.prog tg 3 83 (.int k n) ⟨o, nx⟩ = some (.int .u32 (IntKind.wrap .u32 n), ⟨o, nx⟩) := cv_int (td := .int .i64) (by kernel_rfl) (by kernel_rfl) tg k n o nx
@[go_sem] theorem C5_2 (tg k n o nx) : aConvert Try.prog tg 5 2 (.int k n) ⟨o, nx⟩ = some (.int .i64 (IntKind.wrap .i64 n), ⟨o, nx⟩) := cv_int (td := .int .u8) (by kernel_rfl) (by kernel_rfl) tg k n o nx
@[go_sem] theorem C5_3 (tg k n o nx) : aConvert Try.prog tg 5 3 (.int k n) ⟨o, nx⟩ = some (.int .i64 (IntKind.wrap .i64 n), ⟨o, nx⟩) := cv_int (td := .int .u8) (by kernel_rfl) (by kernel_rfl) tg k n o nx
@[go_sem] theorem C5_34 (tg k n o nx) : aConvert Try.prog tg 5 34 (.int k n) ⟨o, nx⟩ = some (.int .i64 (IntKind.wrap .i64 n), ⟨o, nx⟩) := cv_int (td := .int .u8) (by kernel_rfl) (by kernel_rfl) tg k n o nx
@[go_sem] theorem C5_67 (tg k n o nx) : aConvert Try.prog tg 5 67 (.int k n) ⟨o, nx⟩ = some (.int .u64 (IntKind.wrap .u64 n), ⟨o, nx⟩) := cv_int (td := .int .u8) (by kernel_rfl) (by kernel_rfl) tg k n o nx
@[go_sem] theorem C5_83 (tg k n o nx) : aConvert Try.prog tg 5 83 (.int k n) ⟨o, nx⟩ = some (.int .u32 (IntKind.wrap .u32 n), ⟨o, nx⟩) := cv_int (td := .int .u8) (by kernel_rfl) (by kernel_rfl) tg k n o nx
@[go_sem] theorem C34_2 (tg k n o nx) : aConvert Try.prog tg 34 2 (.int k n) ⟨o, nx⟩ = some (.int .i64 (IntKind.wrap .i64 n), ⟨o, nx⟩) := cv_int (td := .int .i64) (by kernel_rfl) (by kernel_rfl) tg k n o nx
@[go_sem] theorem C34_3 (tg k n o nx) : aConvert Try.prog tg 34 3 (.int k n) ⟨o, nx⟩ = some (.int .i64 (IntKind.wrap .i64 n), ⟨o, nx⟩) := cv_int (td := .int .i64) (by kernel_rfl) (by kernel_rfl) tg k n o nx
@[go_sem] theorem C34_5 (tg k n o nx) : aConvert Try.prog tg 34 5 (.int k n) ⟨o, nx⟩ = some (.int .u8 (IntKind.wrap .u8 n), ⟨o, nx⟩) := cv_int (td := .int .i64) (by kernel_rfl) (by kernel_rfl) tg k n o nx
@[go_sem] theorem C34_67 (tg k n o nx) : aConvert Try.prog tg 34 67 (.int k n) ⟨o, nx⟩ = some (.int .u64 (IntKind.wrap .u64 n), ⟨o, nx⟩) := cv_int (td := .int .i64) (by kernel_rfl) (by kernel_rfl) tg k n o nx
@[go_sem] theorem C34_83 (tg k n o nx) : aConvert Try.prog tg 34 83 (.int k n) ⟨o, nx⟩ = some (.int .u32 (IntKind.wrap .u32 n), ⟨o, nx⟩) := cv_int (td := .int .i64) (by kernel_rfl) (by kernel_rfl) tg k n o nx
@[go_sem] theorem C67_2 (tg k n o nx) : aConvert Try.prog tg 67 2 (.int k n) ⟨o, nx⟩ = some (.int .i64 (IntKind.wrap .i64 n), ⟨o, nx⟩) := cv_int (td := .int .u64) (by kernel_rfl) (by kernel_rfl) tg k n o nx
@[go_sem] theorem C67_3 (tg k n o nx) : aConvert Try.prog tg 67 3 (.int k n) ⟨o, nx⟩ = some (.int .i64 (IntKind.wrap .i64 n), ⟨o, nx⟩) := cv_int (td := .int .u64) (by kernel_rfl) (by kernel_rfl) tg k n o nx
@[go_sem] theorem C67_5 (tg k n o nx) : aConvert Try.prog tg 67 5 (.int k n) ⟨o, nx⟩ = some (.int .u8 (IntKind.wrap .u8 n), ⟨o, nx⟩) := cv_int (td := .int .u64) (by kernel_rfl) (by kernel_rfl) tg k n o nx
@[go_sem] theorem C67_34 (tg k n o nx) : aConvert Try.prog tg 67 34 (.int k n) ⟨o, nx⟩ = some (.int .i64 (IntKind.wrap .i64 n), ⟨o, nx⟩) := cv_int (td := .int .u64) (by kernel_rfl) (by kernel_rfl) tg k n o nx
@[go_sem] theorem C67_83 (tg k n o nx) : aConvert Try.prog tg 67 83 (.int k n) ⟨o, nx⟩ = some (.int .u32 (IntKind.wrap .u32 n), ⟨o, nx⟩) := cv_int (td := .int .u64) (by kernel_rfl) (by kernel_rfl) tg k n o nx
@[go_sem] theorem C83_2 (tg k n o nx) : aConvert Try.prog tg 83 2 (.int k n) ⟨o, nx⟩ = some (.int .i64 (IntKind.wrap .i64 n), ⟨o, nx⟩) := cv_int (td := .int .u32) (by kernel_rfl) (by kernel_rfl) tg k n o nx
@[go_sem] theorem C83_3 (tg k n o nx) : aConvert Try.prog tg 83 3 (.int k n) ⟨o, nx⟩ = some (.int .i64 (IntKind.wrap .i64 n), ⟨o, nx⟩) := cv_int (td := .int .u32) (by kernel_rfl) (by kernel_rfl) tg k n o nx
@[go_sem] theorem C83_5 (tg k n o nx) : aConvert Try.prog tg 83 5 (.int k n) ⟨o, nx⟩ = some (.int .u8 (IntKind.wrap .u8 n), ⟨o, nx⟩) := cv_int (td := .int .u32) (by kernel_rfl) (by kernel_rfl) tg k n o nx
@[go_sem] theorem C83_34 (tg k n o nx) : aConvert Try.prog tg 83 34 (.int k n) ⟨o, nx⟩ = some (.int .i64 (IntKind.wrap .i64 n), ⟨o, nx⟩) := cv_int (td := .int .u32) (by kernel_rfl) (by kernel_rfl) tg k n o nx
@[go_sem] theorem C83_67 (tg k n o nx) : aConvert Try.prog tg 83 67 (.int k n) ⟨o, nx⟩ = some (.int .u64 (IntKind.wrap .u64 n), ⟨o, nx⟩) := cv_int (td := .int .u32) (by kernel_rfl) (by kernel_rfl) tg k n o nx
/-- How functions are called: on data, with a number or a truth value back; on data, with data back; on the caller's memory. -/
def md0 (f : FuncId) : Mode := if f ∈ [4, 5, 13, 23, 17, 11, 9, 22, 10] then .ext true else if f ∈ [6, 14, 24, 8, 7, 12, 18, 19, 20, 21, 30, 31, 32] then .ext false else if f ∈ [] then .raw true else .raw false
@[go_sem] theorem M4 : md0 4 = .ext true := rfl
@[go_sem] theorem M5 : md0 5 = .ext true := rfl
@[go_sem] theorem M6 : md0 6 = .ext false := rfl
@[go_sem] theorem M13 : md0 13 = .ext true := rfl
@[go_sem] theorem M23 : md0 23 = .ext true := rfl
@[go_sem] theorem M14 : md0 14 = .ext false := rfl
@[go_sem] theorem M24 : md0 24 = .ext false := rfl
@[go_sem] theorem M8 : md0 8 = .ext false := rfl
@[go_sem] theorem M17 : md0 17 = .ext true := rfl
@[go_sem] theorem M7 : md0 7 = .ext false := rfl
@[go_sem] theorem M11 : md0 11 = .ext true := rfl
@[go_sem] theorem M9 : md0 9 = .ext true := rfl
@[go_sem] theorem M12 : md0 12 = .ext false := rfl
@[go_sem] theorem M22 : md0 22 = .ext true := rfl
@[go_sem] theorem M18 : md0 18 = .ext false := rfl
@[go_sem] theorem M19 : md0 19 = .ext false := rfl
@[go_sem] theorem M10 : md0 10 = .ext true := rfl
@[go_sem] theorem M20 : md0 20 = .ext false := rfl
@[go_sem] theorem M21 : md0 21 = .ext false := rfl
@[go_sem] theorem M30 : md0 30 = .ext false := rfl
@[go_sem] theorem M31 : md0 31 = .ext false := rfl
@[go_sem] theorem M32 : md0 32 = .ext false := rfl
@[go_sem] theorem M15 : md0 15 = .raw false := rfl
@[go_sem] theorem M25 : md0 25 = .raw false := rfl
@[go_sem] theorem M26 : md0 26 = .raw false := rfl
@[go_sem] theorem M27 : md0 27 = .raw false := rfl
@[go_sem] theorem M16 : md0 16 = .raw false := rfl
@[go_sem] theorem M28 : md0 28 = .raw false := rfl
@[go_sem] theorem M29 : md0 29 = .raw false := rfl
end Go.Proofs.Ytfmijoglolecgaa.A
/- within: the remainder. -/
namespace Go.Proofs.Ytfmijoglolecgaa.A
open Go
set_option maxRecDepth 20000
def RW (args : List AV) (r : AV) : Prop := ∃ a n : Int, 0 < n ∧ n ≤ 1000000 ∧ args = [.int .i64 a, .int .i64 n] ∧ r = .int .i64 (a % n)
theorem RW_fn : Fun1 RW := by
  rintro args r r' ⟨a, n, _, _, rfl, rfl⟩ ⟨a', n', _, _, h, rfl⟩
  simp only [List.cons.injEq, AV.int.injEq, true_and, and_true] at h
  rw [h.1, h.2]
theorem rw_eq {a n : Int} (h1 : 0 < n) (h2 : n ≤ 1000000) : tRel RW [.int .i64 a, .int .i64 n] = some (.int .i64 (a % n)) := tRel_eq RW_fn ⟨a, n, h1, h2, rfl, rfl⟩
theorem mod_of (a n : Int) (h : 0 < n) : a % n = if a.tmod n < 0 then a.tmod n + n else a.tmod n := by
  have hn : ¬ n = 0 := by omega
  have e1 := Int.emod_lt_of_pos a h
  have e2 := Int.emod_nonneg a hn
  rw [Int.tmod_eq_emod]
  have : (n.natAbs : Int) = n := by omega
  split
  · split <;> omega
  · rename_i hc
    simp only [not_or] at hc
    have h0 : a % n ≠ 0 := fun e => hc.2 (Int.dvd_of_emod_eq_zero e)
    split <;> omega
theorem tmod_in (a n : Int) (h : 0 < n) : -n < a.tmod n ∧ a.tmod n < n := by
  have hn : ¬ n = 0 := by omega
  rw [Int.tmod_eq_emod]
  have := Int.emod_lt_of_pos a h
  have := Int.emod_nonneg a hn
  constructor <;> split <;> omega
theorem lookW1 (X) : lookedAt (EX md0 X) (fun _ => none) 2 Try.f17 = true := by kernel_rfl
theorem within1_ok (args r) (h : RW args r) : Ok Try.prog 17 args r := by
  obtain ⟨a, n, h1, h2, rfl, rfl⟩ := h
  refine ok_of_WP (E := EX md0 (fun _ _ => none)) (cr := noR) (tab_nil _) (noR_ok _) mixed (k := 0) Try.func17 (lookW1 _) rfl ?_
  rw [mod_of a n h1]
  obtain ⟨h3, h4⟩ := tmod_in a n h1
  simp only [Try.f17, Option.getD_some]
  by_cases hc : a.tmod n < 0
  · rw [if_pos hc]
    simp (disch := omega) only [go_sem, ↓IntWalk.iteOmega, IntWalk.toNatUp, Nat.reduceEqDiff, Nat.reduceAdd, Nat.reduceMul, Nat.reduceSub, Nat.reduceLT, Nat.reduceLeDiff, Int.reduceToNat, Int.reduceLT, Int.reduceLE, Int.reduceEq, Int.reduceAdd, Int.reduceSub, Int.reduceMul, Int.toNat_natCast, reduceCtorEq, decide_true, decide_false, IntWalk.i64_in, IntWalk.u64_in, IntWalk.u8_in, hc]
  · rw [if_neg hc]
    simp (disch := omega) only [go_sem, ↓IntWalk.iteOmega, IntWalk.toNatUp, Nat.reduceEqDiff, Nat.reduceAdd, Nat.reduceMul, Nat.reduceSub, Nat.reduceLT, Nat.reduceLeDiff, Int.reduceToNat, Int.reduceLT, Int.reduceLE, Int.reduceEq, Int.reduceAdd, Int.reduceSub, Int.reduceMul, Int.toNat_natCast, reduceCtorEq, decide_true, decide_false, IntWalk.i64_in, IntWalk.u64_in, IntWalk.u8_in, hc]
theorem lookW2 (X) : lookedAt (EX md0 X) (fun _ => none) 2 Try.f23 = true := by kernel_rfl
theorem within2_ok (args r) (h : RW args r) : Ok Try.prog 23 args r := by
  obtain ⟨a, n, h1, h2, rfl, rfl⟩ := h
  refine ok_of_WP (E := EX md0 (fun _ _ => none)) (cr := noR) (tab_nil _) (noR_ok _) mixed (k := 0) Try.func23 (lookW2 _) rfl ?_
  rw [mod_of a n h1]
  obtain ⟨h3, h4⟩ := tmod_in a n h1
  simp only [Try.f23, Option.getD_some]
  by_cases hc : a.tmod n < 0
  · rw [if_pos hc]
    simp (disch := omega) only [go_sem, ↓IntWalk.iteOmega, IntWalk.toNatUp, Nat.reduceEqDiff, Nat.reduceAdd, Nat.reduceMul, Nat.reduceSub, Nat.reduceLT, Nat.reduceLeDiff, Int.reduceToNat, Int.reduceLT, Int.reduceLE, Int.reduceEq, Int.reduceAdd, Int.reduceSub, Int.reduceMul, Int.toNat_natCast, reduceCtorEq, decide_true, decide_false, IntWalk.i64_in, IntWalk.u64_in, IntWalk.u8_in, hc]
  · rw [if_neg hc]
    simp (disch := omega) only [go_sem, ↓IntWalk.iteOmega, IntWalk.toNatUp, Nat.reduceEqDiff, Nat.reduceAdd, Nat.reduceMul, Nat.reduceSub, Nat.reduceLT, Nat.reduceLeDiff, Int.reduceToNat, Int.reduceLT, Int.reduceLE, Int.reduceEq, Int.reduceAdd, Int.reduceSub, Int.reduceMul, Int.toNat_natCast, reduceCtorEq, decide_true, decide_false, IntWalk.i64_in, IntWalk.u64_in, IntWalk.u8_in, hc]
end Go.Proofs.Ytfmijoglolecgaa.A
/- Trees: raw expressions, nodes, their cells; the expression of a raw one. -/
namespace Go.Proofs.Ytfmijoglolecgaa.A
open Go
set_option maxRecDepth 20000
/-! ### trees, and their cells -/
inductive Rw where
  | mk (k n : Int) (l : List Rw)
inductive Nd where
  | mk (kind set lo hi : Int) (l : List Nd)
instance : Inhabited Rw := ⟨.mk 0 0 []⟩
instance : Inhabited Nd := ⟨.mk 0 0 0 0 []⟩
mutual
def cRw : Rw → List AV
  | .mk k n l => [.int .i64 k, .int .i64 n, .sl l.length (cRws l)]
def cRws : List Rw → List AV
  | [] => []
  | r :: l => cRw r ++ cRws l
end
mutual
def cNd : Nd → List AV
  | .mk kind set lo hi l => [.int .i64 kind, .int .i64 set, .int .i64 lo, .int .i64 hi, .sl l.length (cNds l)]
def cNds : List Nd → List AV
  | [] => []
  | r :: l => cNd r ++ cNds l
end
abbrev slR (l : List Rw) : AV := .sl l.length (cRws l)
abbrev slN (l : List Nd) : AV := .sl l.length (cNds l)
@[go_sem] theorem cRw_mk (k n l) : cRw (.mk k n l) = [.int .i64 k, .int .i64 n, slR l] := by rw [cRw]
@[go_sem] theorem cNd_mk (k s lo hi l) : cNd (.mk k s lo hi l) = [.int .i64 k, .int .i64 s, .int .i64 lo, .int .i64 hi, slN l] := by rw [cNd]
@[go_sem] theorem cRws_nil : cRws [] = [] := by rw [cRws]
@[go_sem] theorem cNds_nil : cNds [] = [] := by rw [cNds]
theorem cRws_cons (r l) : cRws (r :: l) = cRw r ++ cRws l := by rw [cRws]
theorem cNds_cons (r l) : cNds (r :: l) = cNd r ++ cNds l := by rw [cNds]
theorem cRw_length (r) : (cRw r).length = 3 := by obtain ⟨k, n, l⟩ := r; rw [cRw_mk]; rfl
theorem cNd_length (r) : (cNd r).length = 5 := by obtain ⟨k, s, lo, hi, l⟩ := r; rw [cNd_mk]; rfl
@[go_sem] theorem cRw_len (r) : (cRw r).length = 3 := cRw_length r
@[go_sem] theorem cNd_len (r) : (cNd r).length = 5 := cNd_length r
@[go_sem] theorem cRw_take (r) : (cRw r).take 3 = cRw r := take_len (cRw_length r)
@[go_sem] theorem cNd_take (r) : (cNd r).take 5 = cNd r := take_len (cNd_length r)
theorem cRw_take' (r x) : (cRw r ++ x).take 3 = cRw r := by rw [List.take_append_of_le_length (by rw [cRw_length]; omega), cRw_take]
theorem cNd_take' (r x) : (cNd r ++ x).take 5 = cNd r := by rw [List.take_append_of_le_length (by rw [cNd_length]; omega), cNd_take]
attribute [go_sem] cRw_take' cNd_take'
@[go_sem] theorem cNd_ok (r) : (cNd r).all cellOk = true := by obtain ⟨k, s, lo, hi, m⟩ := r; rw [cNd_mk]; rfl
@[go_sem] theorem cRw_ok (r) : (cRw r).all cellOk = true := by obtain ⟨k, n, m⟩ := r; rw [cRw_mk]; rfl
@[go_sem] theorem cRws_length (l) : (cRws l).length = l.length * 3 := by
  induction l with
  | nil => rw [cRws_nil]; rfl
  | cons r l ih => rw [cRws_cons, List.length_append, cRw_length, ih, List.length_cons]; omega
@[go_sem] theorem cNds_length (l) : (cNds l).length = l.length * 5 := by
  induction l with
  | nil => rw [cNds_nil]; rfl
  | cons r l ih => rw [cNds_cons, List.length_append, cNd_length, ih, List.length_cons]; omega
theorem cNds_app (x y) : cNds (x ++ y) = cNds x ++ cNds y := by
  induction x with
  | nil => rw [cNds_nil]; rfl
  | cons r l ih => rw [List.cons_append, cNds_cons, ih, cNds_cons, List.append_assoc]
theorem cNds_one (r) : cNds [r] = cNd r := by rw [cNds_cons, cNds_nil, List.append_nil]
@[go_sem] theorem cNds_ok (l) : (cNds l).all cellOk = true := by
  induction l with
  | nil => rw [cNds_nil]; rfl
  | cons r l ih => obtain ⟨k, s, lo, hi, m⟩ := r; rw [cNds_cons, cNd_mk, List.all_append, ih]; rfl
@[go_sem] theorem view_cNd (o d r) : (cNd r).map (view o d) = cNd r := by
  obtain ⟨k, s, lo, hi, m⟩ := r
  rw [cNd_mk]
  simp only [List.map_cons, List.map_nil, view_int, view_sl]
@[go_sem] theorem view_cNds (o d l) : (cNds l).map (view o d) = cNds l := by
  induction l with
  | nil => rw [cNds_nil]; rfl
  | cons r l ih => rw [cNds_cons, List.map_append, view_cNd, ih]
@[go_sem] theorem view_cRw (o d r) : (cRw r).map (view o d) = cRw r := by
  obtain ⟨k, n, m⟩ := r
  rw [cRw_mk]
  simp only [List.map_cons, List.map_nil, view_int, view_sl]
@[go_sem] theorem tags_cNd (o d r) : (cNd r).flatMap (viewTags o d) = [] := by
  obtain ⟨k, s, lo, hi, m⟩ := r
  rw [cNd_mk]
  simp only [List.flatMap_cons, List.flatMap_nil, tags_int, tags_sl, List.append_nil]
@[go_sem] theorem tags_cNds (o d l) : (cNds l).flatMap (viewTags o d) = [] := by
  induction l with
  | nil => rw [cNds_nil]; rfl
  | cons r l ih => rw [cNds_cons, List.flatMap_append, tags_cNd, ih]; rfl
@[go_sem] theorem tags_cRw (o d r) : (cRw r).flatMap (viewTags o d) = [] := by
  obtain ⟨k, n, m⟩ := r
  rw [cRw_mk]
  simp only [List.flatMap_cons, List.flatMap_nil, tags_int, tags_sl, List.append_nil]
theorem cRws_at {l : List Rw} {i : Nat} (h : i < l.length) : (cRws l).drop (i * 3) = cRw (l.getD i default) ++ cRws (l.drop (i + 1)) := by
  induction l generalizing i with
  | nil => simp at h
  | cons r l ih =>
    cases i with
    | zero => rw [cRws_cons]; rfl
    | succ i =>
      rw [cRws_cons, show (i + 1) * 3 = (cRw r).length + i * 3 by rw [cRw_length]; omega, ← List.drop_drop, List.drop_left, ih (by simpa using h)]
      rfl
theorem cNds_at {l : List Nd} {i : Nat} (h : i < l.length) : (cNds l).drop (i * 5) = cNd (l.getD i default) ++ cNds (l.drop (i + 1)) := by
  induction l generalizing i with
  | nil => simp at h
  | cons r l ih =>
    cases i with
    | zero => rw [cNds_cons]; rfl
    | succ i =>
      rw [cNds_cons, show (i + 1) * 5 = (cNd r).length + i * 5 by rw [cNd_length]; omega, ← List.drop_drop, List.drop_left, ih (by simpa using h)]
      rfl
mutual
theorem cRw_inj : ∀ {x y : Rw}, cRw x = cRw y → x = y
  | .mk k n l, .mk k' n' l', h => by
    rw [cRw_mk, cRw_mk] at h
    simp only [List.cons.injEq, AV.int.injEq, AV.sl.injEq, true_and, and_true] at h
    obtain ⟨h1, h2, _, h3⟩ := h
    rw [h1, h2, cRws_inj h3]
theorem cRws_inj : ∀ {x y : List Rw}, cRws x = cRws y → x = y
  | [], [], _ => rfl
  | [], r :: l, h => by
    have := congrArg List.length h
    rw [cRws_nil, cRws_length] at this
    simp at this
  | r :: l, [], h => by
    have := congrArg List.length h
    rw [cRws_nil, cRws_length] at this
    simp at this
  | r :: l, r' :: l', h => by
    rw [cRws_cons, cRws_cons] at h
    obtain ⟨h1, h2⟩ := List.append_inj h (by rw [cRw_length, cRw_length])
    rw [cRw_inj h1, cRws_inj h2]
end
mutual
theorem cNd_inj : ∀ {x y : Nd}, cNd x = cNd y → x = y
  | .mk k s lo hi l, .mk k' s' lo' hi' l', h => by
    rw [cNd_mk, cNd_mk] at h
    simp only [List.cons.injEq, AV.int.injEq, AV.sl.injEq, true_and, and_true] at h
    obtain ⟨h1, h2, h4, h5, _, h3⟩ := h
    rw [h1, h2, h4, h5, cNds_inj h3]
theorem cNds_inj : ∀ {x y : List Nd}, cNds x = cNds y → x = y
  | [], [], _ => rfl
  | [], r :: l, h => by
    have := congrArg List.length h
    rw [cNds_nil, cNds_length] at this
    simp at this
  | r :: l, [], h => by
    have := congrArg List.length h
    rw [cNds_nil, cNds_length] at this
    simp at this
  | r :: l, r' :: l', h => by
    rw [cNds_cons, cNds_cons] at h
    obtain ⟨h1, h2⟩ := List.append_inj h (by rw [cNd_length, cNd_length])
    rw [cNd_inj h1, cNds_inj h2]
end
/-! ### the expression of a raw one -/
def sign (x : Int) : Int := IntKind.i64.wrap (1 * 2 ^ min (x % 5).toNat 64)
def partN (n : Int) (ls : List Nd) (i : Nat) : Nd := if i < ls.length then ls.getD i default else .mk 1 (sign (IntKind.i64.wrap (n + i))) 0 0 []
def many4 (n : Nat) : Nat := if n ≤ 2 then 2 else if n ≤ 4 then n else 4
/-- Of a raw one's numbers, and its parts' expressions. -/
def buildN (k n : Int) (ls : List Nd) : Nd :=
  if k % 14 ≤ 1 then .mk 1 (1 + n % 31) 0 0 []
  else if k % 14 ≤ 3 then .mk 1 (sign n) 0 0 []
  else if k % 14 = 4 then .mk (if n % 3 = 0 then 2 else 3) 0 0 0 []
  else if k % 14 ≤ 7 then .mk 4 0 0 0 ((List.range (many4 ls.length)).map (partN n ls))
  else if k % 14 ≤ 9 then .mk 5 0 0 0 ((List.range (many4 ls.length)).map (partN n ls))
  else if k % 14 = 10 then .mk 6 0 0 0 [partN n ls 0]
  else if k % 14 = 11 then .mk 7 0 0 0 [partN n ls 0]
  else if k % 14 = 12 then .mk 8 0 0 0 [partN n ls 0]
  else .mk 9 0 (n % 4) (n % 4 + IntKind.i64.wrap (n.tdiv 4) % 3) [partN n ls 0]
mutual
def makeN : Rw → Nd
  | .mk k n l => buildN k n (makeNs l)
def makeNs : List Rw → List Nd
  | [] => []
  | r :: l => makeN r :: makeNs l
end
theorem makeNs_length (l) : (makeNs l).length = l.length := by
  induction l with
  | nil => rw [makeNs]; rfl
  | cons r l ih => rw [makeNs, List.length_cons, ih, List.length_cons]
theorem makeNs_get {l : List Rw} {i : Nat} (h : i < l.length) : (makeNs l).getD i default = makeN (l.getD i default) := by
  induction l generalizing i with
  | nil => simp at h
  | cons r l ih =>
    rw [makeNs]
    cases i with
    | zero => rfl
    | succ i => exact ih (by simpa using h)
abbrev rawV (r : Rw) : AV := .agg (cRw r)
abbrev nodeV (n : Nd) : AV := .agg (cNd n)
end Go.Proofs.Ytfmijoglolecgaa.A
/- l4 part and Make: contracts. UNDER WAY. -/
namespace Go.Proofs.Ytfmijoglolecgaa.A
open Go
set_option maxRecDepth 20000
theorem sign_conv (x : Int) : IntKind.u64.wrap (x % 5) = x % 5 := IntWalk.u64_in _ (by have := Int.emod_nonneg x (show (5 : Int) ≠ 0 by decide); have := Int.emod_lt_of_pos x (show (0 : Int) < 5 by decide); omega)
def RMk (l : List Rw) (args : List AV) (r : AV) : Prop := ∃ i, i < l.length ∧ args = [rawV (l.getD i default)] ∧ r = nodeV (makeN (l.getD i default))
theorem RMk_fn (l) : Fun1 (RMk l) := by
  rintro args r r' ⟨i, _, rfl, rfl⟩ ⟨j, _, h, rfl⟩
  simp only [List.cons.injEq, AV.agg.injEq, and_true] at h
  rw [cRw_inj h]
theorem lookPart (X) : lookedAt (EX md0 X) (fun _ => none) 2 Try.f24 = true := by kernel_rfl
theorem part_ok (k n : Int) (l : List Rw) (hch : ∀ i, i < l.length → Ok Try.prog 14 [rawV (l.getD i default)] (nodeV (makeN (l.getD i default)))) (i : Nat) (hi : i ≤ 1000000) :
    Ok Try.prog 24 [rawV (.mk k n l), .int .i64 i] (nodeV (partN n (makeNs l) i)) := by
  refine ok_of_WP (E := EX md0 (tabLook [(14, tRel (RMk l)), (23, tRel RW)])) (cr := noR) (tab_cons (tab_cons (tab_nil _) (tRel_ok within2_ok)) (tRel_ok (fun args r h => by obtain ⟨i, hi, rfl, rfl⟩ := h; exact hch i hi))) (noR_ok _) mixed (k := 0) Try.func24 (lookPart _) rfl ?_
  have hmk : ∀ j, j < l.length → tabLook [(14, tRel (RMk l)), (23, tRel RW)] 14 [rawV (l.getD j default)] = some (nodeV (makeN (l.getD j default))) := fun j hj => tRel_eq (RMk_fn l) ⟨j, hj, rfl, rfl⟩
  have hwi : ∀ a m : Int, 0 < m → m ≤ 1000000 → tabLook [(14, tRel (RMk l)), (23, tRel RW)] 23 [.int .i64 a, .int .i64 m] = some (.int .i64 (a % m)) := fun a m h1 h2 => rw_eq h1 h2
  simp only [Try.f24, Option.getD_some]
  by_cases hlt : i < l.length
  · have hat := cRws_at hlt
    have e : partN n (makeNs l) i = makeN (l.getD i default) := by rw [partN, makeNs_length, if_pos hlt, makeNs_get hlt]
    rw [e]
    have hm := hmk i hlt
    simp (disch := omega) only [go_sem, ↓IntWalk.iteOmega, IntWalk.toNatUp, Nat.reduceEqDiff, Nat.reduceAdd, Nat.reduceMul, Nat.reduceSub, Nat.reduceLT, Nat.reduceLeDiff, Int.reduceToNat, Int.reduceLT, Int.reduceLE, Int.reduceEq, Int.reduceAdd, Int.reduceSub, Int.reduceMul, Int.toNat_natCast, reduceCtorEq, decide_true, decide_false, IntWalk.i64_in, IntWalk.u64_in, IntWalk.u8_in, hat, hm]
  · have e : partN n (makeNs l) i = .mk 1 (sign (IntKind.i64.wrap (n + i))) 0 0 [] := by rw [partN, makeNs_length, if_neg hlt]
    rw [e]
    have hs := sign_conv (IntKind.i64.wrap (n + i))
    have hs0 := Int.emod_nonneg (IntKind.i64.wrap (n + i)) (show (5 : Int) ≠ 0 by decide)
    simp (disch := omega) only [go_sem, ↓IntWalk.iteOmega, IntWalk.toNatUp, Nat.reduceEqDiff, Nat.reduceAdd, Nat.reduceMul, Nat.reduceSub, Nat.reduceLT, Nat.reduceLeDiff, Int.reduceToNat, Int.reduceLT, Int.reduceLE, Int.reduceEq, Int.reduceAdd, Int.reduceSub, Int.reduceMul, Int.toNat_natCast, reduceCtorEq, decide_true, decide_false, IntWalk.i64_in, IntWalk.u64_in, IntWalk.u8_in, hwi, hs]
    simp only [nodeV, cNd_mk, sign, slN, cNds_nil, List.length_nil]
def nz34 : Nat → Option (List (Nat × Nat))
  | 17 => some [(1, 4), (1, 5)]
  | 25 => some [(1, 4), (1, 5)]
  | _ => none
theorem many4_in (n : Nat) : 2 ≤ many4 n ∧ many4 n ≤ 4 := by unfold many4; split <;> (try split) <;> omega
theorem many4_lt {n i : Nat} (h : i < many4 n) : i < 2 ∨ (2 ≤ i ∧ i < n ∧ i < 4) := by unfold many4 at h; split at h <;> (try split at h) <;> omega

theorem join_loop (k n : Int) (l : List Rw) (hpart : ∀ i : Nat, i ≤ 1000000 → Ok Try.prog 24 [rawV (.mk k n l), .int .i64 i] (nodeV (partN n (makeNs l) i))) (X : FuncId → List AV → Option AV)
    (hX : ∀ i : Nat, i ≤ 1000000 → X 24 [rawV (.mk k n l), .int .i64 i] = some (nodeV (partN n (makeNs l) i))) (kind : Int) {Q : WPost} (a : AAct) (o : Ob) (nx st : Nat) (hst : st < nx) (hst2 : 2 ≤ st)
    (h1 : a 1 = .ptr (0, 1) (0, 1) 0) (h2 : a 2 = .ptr (0, 2) (0, 2) 0) (h3 : a 3 = .ptr (st, 3) (st, 3) 0) (h4 : a 4 = .int .i64 0)
    (ho1 : o (0, 1) = some (.row ⟨45, 1, (0, 1), false, true, cRw (.mk k n l)⟩)) (ho2 : ∃ x, o (0, 2) = some (.row ⟨28, 1, (0, 2), false, true, x⟩) ∧ x.length = 5) (ho3 : o (st, 3) = some (.row ⟨28, 1, (st, 3), false, true, [.int .i64 kind, .int .i64 0, .int .i64 0, .int .i64 0, .nil]⟩))
    (hQ : ∀ a o nx, a 2 = .ptr (0, 2) (0, 2) 0 → (∃ v, o (0, 2) = some (.row ⟨28, 1, (0, 2), false, true, [.int .i64 kind, .int .i64 0, .int .i64 0, .int .i64 0, v]⟩) ∧ HS 28 5 63 o nx v (many4 l.length) (cNds ((List.range (many4 l.length)).map (partN n (makeNs l))))) → Q .ret a o nx) :
    WP (EX md0 X) noR 10 nz34 (pathC [1, 0, 1, 0, 1, 1, 1, 1, 1, 1, 1, 0, 1, 0, 1, 0] (Try.f14.body.getD .skip)) a o nx (blockQ 1 (thenQ (EX md0 X) noR 10 nz34 (pathC [1, 0, 1, 0, 1, 1, 1, 1, 1, 1, 1, 0, 1, 1] (Try.f14.body.getD .skip)) Q)) := by
  simp only [Try.f14, Option.getD_some, pathC]
  have hc := many4_in l.length
  refine WP_loop (fun m a o nx => ∃ i v, i ≤ many4 l.length ∧ m = many4 l.length - i ∧ st < nx ∧ a 1 = .ptr (0, 1) (0, 1) 0 ∧ a 2 = .ptr (0, 2) (0, 2) 0 ∧ a 3 = .ptr (st, 3) (st, 3) 0 ∧ a 4 = .int .i64 i ∧ HS 28 5 63 o nx v i (cNds ((List.range i).map (partN n (makeNs l)))) ∧
    o (0, 1) = some (.row ⟨45, 1, (0, 1), false, true, cRw (.mk k n l)⟩) ∧ (∃ x, o (0, 2) = some (.row ⟨28, 1, (0, 2), false, true, x⟩) ∧ x.length = 5) ∧ o (st, 3) = some (.row ⟨28, 1, (st, 3), false, true, [.int .i64 kind, .int .i64 0, .int .i64 0, .int .i64 0, v]⟩)) (many4 l.length) ?_ ⟨0, .nil, by omega, by omega, by omega, h1, h2, h3, h4, HS.nil, ho1, ho2, ho3⟩ ?_
  · omega
  · clear h1 h2 h3 h4 ho1 ho2 ho3
    rintro m a o nx ⟨i, v, hi, rfl, hnx, h1, h2, h3, h4, hHS, ho1, ⟨x, ho2, hx5⟩, ho3⟩
    have hok := hHS.ok
    by_cases hlt : i < many4 l.length
    · have hcond : i < 2 ∨ (2 ≤ i ∧ i < l.length ∧ i < 4) := many4_lt hlt
      have hp := hX i (by omega)
      simp only [rawV, nodeV, cRw_mk] at hp
      have hsn : (List.range (i + 1)).map (partN n (makeNs l)) = (List.range i).map (partN n (makeNs l)) ++ [partN n (makeNs l) i] := by rw [List.range_succ, List.map_append]; rfl
      rcases hHS with ⟨rfl, e2, e3⟩ | ⟨i1, g1, rfl, hi1, hrow, hlen⟩
      · rcases hcond with c | ⟨c1, c2, c3⟩
        · simp (disch := omega) only [go_sem, ↓IntWalk.iteOmega, IntWalk.toNatUp, Nat.reduceEqDiff, Nat.reduceAdd, Nat.reduceMul, Nat.reduceSub, Nat.reduceLT, Nat.reduceLeDiff, Int.reduceToNat, Int.reduceLT, Int.reduceLE, Int.reduceEq, Int.reduceAdd, Int.reduceSub, Int.reduceMul, Int.toNat_natCast, reduceCtorEq, decide_true, decide_false, IntWalk.i64_in, IntWalk.u64_in, IntWalk.u8_in, h1, h2, h3, h4, ho1, ho2, ho3, hp, nz34]
          refine ⟨_, ?_, i + 1, _, by omega, rfl, by omega, rfl, ?_, ⟨x, rfl, hx5⟩, rfl⟩
          · omega
          · rw [hsn, cNds_app, cNds_one, List.map_eq_nil_iff.2 (List.length_eq_zero_iff.1 (by rw [List.length_range]; exact e2)), cNds_nil]
            exact .inr ⟨nx + 1, _, by rw [e2], by omega, by simp [upd_app], by rw [List.nil_append, cNd_length, e2]⟩
        · omega
      · obtain ⟨cs, hcs⟩ : ∃ cs, cs = cNds ((List.range i).map (partN n (makeNs l))) := ⟨_, rfl⟩
        rw [← hcs] at hrow hlen
        have htk : cs.take (i * 5) = cs := take_len hlen
        have hfin : ∀ o' nx', o' (i1, 63) = some (.row ⟨28, 5, (nx + 1, 63), false, true, cs ++ cNd (partN n (makeNs l) i)⟩) → i1 < nx' → HS 28 5 63 o' nx' (.ref (i1, 63) (nx + 1, 63) 0 (i + 1)) (i + 1) (cNds ((List.range (i + 1)).map (partN n (makeNs l)))) := by
          intro o' nx' h h'
          rw [hsn, cNds_app, cNds_one, ← hcs]
          exact .inr ⟨i1, _, rfl, h', h, by rw [List.length_append, cNd_length, hlen]; omega⟩
        rcases hcond with c | ⟨c1, c2, c3⟩
        all_goals
          simp (disch := omega) only [go_sem, ↓IntWalk.iteOmega, IntWalk.toNatUp, Nat.reduceEqDiff, Nat.reduceAdd, Nat.reduceMul, Nat.reduceSub, Nat.reduceLT, Nat.reduceLeDiff, Int.reduceToNat, Int.reduceLT, Int.reduceLE, Int.reduceEq, Int.reduceAdd, Int.reduceSub, Int.reduceMul, Int.toNat_natCast, reduceCtorEq, decide_true, decide_false, IntWalk.i64_in, IntWalk.u64_in, IntWalk.u8_in, h1, h2, h3, h4, ho1, ho2, ho3, hp, hrow, nz34, hlen, htk]
          refine ⟨_, ?_, i + 1, _, by omega, rfl, by omega, rfl, hfin _ _ ?_ (by omega), ⟨x, rfl, hx5⟩, rfl⟩
          · omega
          · simp [upd_app]
    · have hie : i = many4 l.length := by omega
      have hc1 : ¬ i < 2 := by omega
      have hx0 : x.drop 5 = [] := List.drop_of_length_le (by omega)
      by_cases c2 : i < l.length
      · have c3 : ¬ i < 4 := by have := hie; unfold many4 at this; split at this <;> (try split at this) <;> omega
        simp (disch := omega) only [go_sem, ↓IntWalk.iteOmega, IntWalk.toNatUp, Nat.reduceEqDiff, Nat.reduceAdd, Nat.reduceMul, Nat.reduceSub, Nat.reduceLT, Nat.reduceLeDiff, Int.reduceToNat, Int.reduceLT, Int.reduceLE, Int.reduceEq, Int.reduceAdd, Int.reduceSub, Int.reduceMul, Int.toNat_natCast, reduceCtorEq, decide_true, decide_false, IntWalk.i64_in, IntWalk.u64_in, IntWalk.u8_in, h1, h2, h3, h4, ho1, ho2, ho3, hc1, hok]
        exact hQ _ _ _ (by simp [put_app, h2]) ⟨v, by rw [upd_same, hx0], by rw [← hie]; exact hHS.keep (fun _ _ => by simp [upd_app]) (by omega)⟩
      · simp (disch := omega) only [go_sem, ↓IntWalk.iteOmega, IntWalk.toNatUp, Nat.reduceEqDiff, Nat.reduceAdd, Nat.reduceMul, Nat.reduceSub, Nat.reduceLT, Nat.reduceLeDiff, Int.reduceToNat, Int.reduceLT, Int.reduceLE, Int.reduceEq, Int.reduceAdd, Int.reduceSub, Int.reduceMul, Int.toNat_natCast, reduceCtorEq, decide_true, decide_false, IntWalk.i64_in, IntWalk.u64_in, IntWalk.u8_in, h1, h2, h3, h4, ho1, ho2, ho3, hc1, hok]
        exact hQ _ _ _ (by simp [put_app, h2]) ⟨v, by rw [upd_same, hx0], by rw [← hie]; exact hHS.keep (fun _ _ => by simp [upd_app]) (by omega)⟩

theorem union_loop (k n : Int) (l : List Rw) (hpart : ∀ i : Nat, i ≤ 1000000 → Ok Try.prog 24 [rawV (.mk k n l), .int .i64 i] (nodeV (partN n (makeNs l) i))) (X : FuncId → List AV → Option AV)
    (hX : ∀ i : Nat, i ≤ 1000000 → X 24 [rawV (.mk k n l), .int .i64 i] = some (nodeV (partN n (makeNs l) i))) (kind : Int) {Q : WPost} (a : AAct) (o : Ob) (nx st : Nat) (hst : st < nx) (hst2 : 2 ≤ st)
    (h1 : a 1 = .ptr (0, 1) (0, 1) 0) (h2 : a 2 = .ptr (0, 2) (0, 2) 0) (h3 : a 5 = .ptr (st, 5) (st, 5) 0) (h4 : a 6 = .int .i64 0)
    (ho1 : o (0, 1) = some (.row ⟨45, 1, (0, 1), false, true, cRw (.mk k n l)⟩)) (ho2 : ∃ x, o (0, 2) = some (.row ⟨28, 1, (0, 2), false, true, x⟩) ∧ x.length = 5) (ho3 : o (st, 5) = some (.row ⟨28, 1, (st, 5), false, true, [.int .i64 kind, .int .i64 0, .int .i64 0, .int .i64 0, .nil]⟩))
    (hQ : ∀ a o nx, a 2 = .ptr (0, 2) (0, 2) 0 → (∃ v, o (0, 2) = some (.row ⟨28, 1, (0, 2), false, true, [.int .i64 kind, .int .i64 0, .int .i64 0, .int .i64 0, v]⟩) ∧ HS 28 5 91 o nx v (many4 l.length) (cNds ((List.range (many4 l.length)).map (partN n (makeNs l))))) → Q .ret a o nx) :
    WP (EX md0 X) noR 10 nz34 (pathC [1, 0, 1, 0, 1, 1, 1, 1, 1, 1, 1, 1, 1, 0, 1, 0, 1, 0] (Try.f14.body.getD .skip)) a o nx (blockQ 3 (thenQ (EX md0 X) noR 10 nz34 (pathC [1, 0, 1, 0, 1, 1, 1, 1, 1, 1, 1, 1, 1, 0, 1, 1] (Try.f14.body.getD .skip)) Q)) := by
  simp only [Try.f14, Option.getD_some, pathC]
  have hc := many4_in l.length
  refine WP_loop (fun m a o nx => ∃ i v, i ≤ many4 l.length ∧ m = many4 l.length - i ∧ st < nx ∧ a 1 = .ptr (0, 1) (0, 1) 0 ∧ a 2 = .ptr (0, 2) (0, 2) 0 ∧ a 5 = .ptr (st, 5) (st, 5) 0 ∧ a 6 = .int .i64 i ∧ HS 28 5 91 o nx v i (cNds ((List.range i).map (partN n (makeNs l)))) ∧
    o (0, 1) = some (.row ⟨45, 1, (0, 1), false, true, cRw (.mk k n l)⟩) ∧ (∃ x, o (0, 2) = some (.row ⟨28, 1, (0, 2), false, true, x⟩) ∧ x.length = 5) ∧ o (st, 5) = some (.row ⟨28, 1, (st, 5), false, true, [.int .i64 kind, .int .i64 0, .int .i64 0, .int .i64 0, v]⟩)) (many4 l.length) ?_ ⟨0, .nil, by omega, by omega, by omega, h1, h2, h3, h4, HS.nil, ho1, ho2, ho3⟩ ?_
  · omega
  · clear h1 h2 h3 h4 ho1 ho2 ho3
    rintro m a o nx ⟨i, v, hi, rfl, hnx, h1, h2, h3, h4, hHS, ho1, ⟨x, ho2, hx5⟩, ho3⟩
    have hok := hHS.ok
    by_cases hlt : i < many4 l.length
    · have hcond : i < 2 ∨ (2 ≤ i ∧ i < l.length ∧ i < 4) := many4_lt hlt
      have hp := hX i (by omega)
      simp only [rawV, nodeV, cRw_mk] at hp
      have hsn : (List.range (i + 1)).map (partN n (makeNs l)) = (List.range i).map (partN n (makeNs l)) ++ [partN n (makeNs l) i] := by rw [List.range_succ, List.map_append]; rfl
      rcases hHS with ⟨rfl, e2, e3⟩ | ⟨i1, g1, rfl, hi1, hrow, hlen⟩
      · rcases hcond with c | ⟨c1, c2, c3⟩
        · simp (disch := omega) only [go_sem, ↓IntWalk.iteOmega, IntWalk.toNatUp, Nat.reduceEqDiff, Nat.reduceAdd, Nat.reduceMul, Nat.reduceSub, Nat.reduceLT, Nat.reduceLeDiff, Int.reduceToNat, Int.reduceLT, Int.reduceLE, Int.reduceEq, Int.reduceAdd, Int.reduceSub, Int.reduceMul, Int.toNat_natCast, reduceCtorEq, decide_true, decide_false, IntWalk.i64_in, IntWalk.u64_in, IntWalk.u8_in, h1, h2, h3, h4, ho1, ho2, ho3, hp, nz34]
          refine ⟨_, ?_, i + 1, _, by omega, rfl, by omega, rfl, ?_, ⟨x, rfl, hx5⟩, rfl⟩
          · omega
          · rw [hsn, cNds_app, cNds_one, List.map_eq_nil_iff.2 (List.length_eq_zero_iff.1 (by rw [List.length_range]; exact e2)), cNds_nil]
            exact .inr ⟨nx + 1, _, by rw [e2], by omega, by simp [upd_app], by rw [List.nil_append, cNd_length, e2]⟩
        · omega
      · obtain ⟨cs, hcs⟩ : ∃ cs, cs = cNds ((List.range i).map (partN n (makeNs l))) := ⟨_, rfl⟩
        rw [← hcs] at hrow hlen
        have htk : cs.take (i * 5) = cs := take_len hlen
        have hfin : ∀ o' nx', o' (i1, 91) = some (.row ⟨28, 5, (nx + 1, 91), false, true, cs ++ cNd (partN n (makeNs l) i)⟩) → i1 < nx' → HS 28 5 91 o' nx' (.ref (i1, 91) (nx + 1, 91) 0 (i + 1)) (i + 1) (cNds ((List.range (i + 1)).map (partN n (makeNs l)))) := by
          intro o' nx' h h'
          rw [hsn, cNds_app, cNds_one, ← hcs]
          exact .inr ⟨i1, _, rfl, h', h, by rw [List.length_append, cNd_length, hlen]; omega⟩
        rcases hcond with c | ⟨c1, c2, c3⟩
        all_goals
          simp (disch := omega) only [go_sem, ↓IntWalk.iteOmega, IntWalk.toNatUp, Nat.reduceEqDiff, Nat.reduceAdd, Nat.reduceMul, Nat.reduceSub, Nat.reduceLT, Nat.reduceLeDiff, Int.reduceToNat, Int.reduceLT, Int.reduceLE, Int.reduceEq, Int.reduceAdd, Int.reduceSub, Int.reduceMul, Int.toNat_natCast, reduceCtorEq, decide_true, decide_false, IntWalk.i64_in, IntWalk.u64_in, IntWalk.u8_in, h1, h2, h3, h4, ho1, ho2, ho3, hp, hrow, nz34, hlen, htk]
          refine ⟨_, ?_, i + 1, _, by omega, rfl, by omega, rfl, hfin _ _ ?_ (by omega), ⟨x, rfl, hx5⟩, rfl⟩
          · omega
          · simp [upd_app]
    · have hie : i = many4 l.length := by omega
      have hc1 : ¬ i < 2 := by omega
      have hx0 : x.drop 5 = [] := List.drop_of_length_le (by omega)
      by_cases c2 : i < l.length
      · have c3 : ¬ i < 4 := by have := hie; unfold many4 at this; split at this <;> (try split at this) <;> omega
        simp (disch := omega) only [go_sem, ↓IntWalk.iteOmega, IntWalk.toNatUp, Nat.reduceEqDiff, Nat.reduceAdd, Nat.reduceMul, Nat.reduceSub, Nat.reduceLT, Nat.reduceLeDiff, Int.reduceToNat, Int.reduceLT, Int.reduceLE, Int.reduceEq, Int.reduceAdd, Int.reduceSub, Int.reduceMul, Int.toNat_natCast, reduceCtorEq, decide_true, decide_false, IntWalk.i64_in, IntWalk.u64_in, IntWalk.u8_in, h1, h2, h3, h4, ho1, ho2, ho3, hc1, hok]
        exact hQ _ _ _ (by simp [put_app, h2]) ⟨v, by rw [upd_same, hx0], by rw [← hie]; exact hHS.keep (fun _ _ => by simp [upd_app]) (by omega)⟩
      · simp (disch := omega) only [go_sem, ↓IntWalk.iteOmega, IntWalk.toNatUp, Nat.reduceEqDiff, Nat.reduceAdd, Nat.reduceMul, Nat.reduceSub, Nat.reduceLT, Nat.reduceLeDiff, Int.reduceToNat, Int.reduceLT, Int.reduceLE, Int.reduceEq, Int.reduceAdd, Int.reduceSub, Int.reduceMul, Int.toNat_natCast, reduceCtorEq, decide_true, decide_false, IntWalk.i64_in, IntWalk.u64_in, IntWalk.u8_in, h1, h2, h3, h4, ho1, ho2, ho3, hc1, hok]
        exact hQ _ _ _ (by simp [put_app, h2]) ⟨v, by rw [upd_same, hx0], by rw [← hie]; exact hHS.keep (fun _ _ => by simp [upd_app]) (by omega)⟩
end Go.Proofs.Ytfmijoglolecgaa.A
/- Make: the expression of a raw one. -/
namespace Go.Proofs.Ytfmijoglolecgaa.A
open Go
set_option maxRecDepth 20000
def RPart (k n : Int) (l : List Rw) (args : List AV) (r : AV) : Prop := ∃ i : Nat, i ≤ 1000000 ∧ args = [rawV (.mk k n l), .int .i64 i] ∧ r = nodeV (partN n (makeNs l) i)
theorem RPart_fn (k n l) : Fun1 (RPart k n l) := by
  rintro args r r' ⟨i, _, rfl, rfl⟩ ⟨j, _, h, rfl⟩
  simp only [List.cons.injEq, AV.int.injEq, and_true, true_and] at h
  rw [Int.ofNat_inj.1 h]
theorem lookMake (X) : lookedAt (EX md0 X) nz34 10 Try.f14 = true := by kernel_rfl
theorem make1_ok (k n : Int) (l : List Rw) (hpart : ∀ i : Nat, i ≤ 1000000 → Ok Try.prog 24 [rawV (.mk k n l), .int .i64 i] (nodeV (partN n (makeNs l) i))) :
    Ok Try.prog 14 [rawV (.mk k n l)] (nodeV (buildN k n (makeNs l))) := by
  refine ok_of_WP (E := EX md0 (tabLook [(24, tRel (RPart k n l)), (23, tRel RW)])) (cr := noR) (tab_cons (tab_cons (tab_nil _) (tRel_ok within2_ok)) (tRel_ok (fun args r h => by obtain ⟨i, hi, rfl, rfl⟩ := h; exact hpart i hi))) (noR_ok _) mixed (k := 10) Try.func14 (lookMake _) rfl ?_
  obtain ⟨X, hX⟩ : ∃ X, X = tabLook [(24, tRel (RPart k n l)), (23, tRel RW)] := ⟨_, rfl⟩
  have hp : ∀ j : Nat, j ≤ 1000000 → X 24 [rawV (.mk k n l), .int .i64 j] = some (nodeV (partN n (makeNs l) j)) := fun j hj => by rw [hX]; exact tRel_eq (RPart_fn k n l) ⟨j, hj, rfl, rfl⟩
  have hwi : ∀ a m : Int, 0 < m → m ≤ 1000000 → X 23 [.int .i64 a, .int .i64 m] = some (.int .i64 (a % m)) := fun a m h1 h2 => by rw [hX]; exact rw_eq h1 h2
  rw [← hX]
  clear hX
  simp only [Try.f14, Option.getD_some]
  have hk0 := Int.emod_nonneg k (show (14 : Int) ≠ 0 by decide)
  have hk1 := Int.emod_lt_of_pos k (show (0 : Int) < 14 by decide)
  have h31 := Int.emod_nonneg n (show (31 : Int) ≠ 0 by decide)
  have h31' := Int.emod_lt_of_pos n (show (0 : Int) < 31 by decide)
  have hp0 : X 24 [.agg [.int .i64 k, .int .i64 n, .sl l.length (cRws l)], .int .i64 0] = some (.agg (cNd (partN n (makeNs l) 0))) := by
    have := hp 0 (by omega)
    rw [rawV, nodeV, cRw_mk] at this
    exact this
  have hk : k % 14 = 0 ∨ k % 14 = 1 ∨ k % 14 = 2 ∨ k % 14 = 3 ∨ k % 14 = 4 ∨ k % 14 = 5 ∨ k % 14 = 6 ∨ k % 14 = 7 ∨ k % 14 = 8 ∨ k % 14 = 9 ∨ k % 14 = 10 ∨ k % 14 = 11 ∨ k % 14 = 12 ∨ k % 14 = 13 := by omega
  rcases hk with e | e | e | e | e | e | e | e | e | e | e | e | e | e
  · simp (disch := omega) only [go_sem, ↓IntWalk.iteOmega, IntWalk.toNatUp, Nat.reduceEqDiff, Nat.reduceAdd, Nat.reduceMul, Nat.reduceSub, Nat.reduceLT, Nat.reduceLeDiff, Int.reduceToNat, Int.reduceLT, Int.reduceLE, Int.reduceEq, Int.reduceAdd, Int.reduceSub, Int.reduceMul, Int.toNat_natCast, reduceCtorEq, decide_true, decide_false, IntWalk.i64_in, IntWalk.u64_in, IntWalk.u8_in, hwi, e, buildN]
    simp only [nodeV, cNd_mk, sign, slN, cNds_nil, List.length_nil]
  · simp (disch := omega) only [go_sem, ↓IntWalk.iteOmega, IntWalk.toNatUp, Nat.reduceEqDiff, Nat.reduceAdd, Nat.reduceMul, Nat.reduceSub, Nat.reduceLT, Nat.reduceLeDiff, Int.reduceToNat, Int.reduceLT, Int.reduceLE, Int.reduceEq, Int.reduceAdd, Int.reduceSub, Int.reduceMul, Int.toNat_natCast, reduceCtorEq, decide_true, decide_false, IntWalk.i64_in, IntWalk.u64_in, IntWalk.u8_in, hwi, e, buildN]
    simp only [nodeV, cNd_mk, sign, slN, cNds_nil, List.length_nil]
  · simp (disch := omega) only [go_sem, ↓IntWalk.iteOmega, IntWalk.toNatUp, Nat.reduceEqDiff, Nat.reduceAdd, Nat.reduceMul, Nat.reduceSub, Nat.reduceLT, Nat.reduceLeDiff, Int.reduceToNat, Int.reduceLT, Int.reduceLE, Int.reduceEq, Int.reduceAdd, Int.reduceSub, Int.reduceMul, Int.toNat_natCast, reduceCtorEq, decide_true, decide_false, IntWalk.i64_in, IntWalk.u64_in, IntWalk.u8_in, hwi, e, buildN]
    simp only [nodeV, cNd_mk, sign, slN, cNds_nil, List.length_nil]
  · simp (disch := omega) only [go_sem, ↓IntWalk.iteOmega, IntWalk.toNatUp, Nat.reduceEqDiff, Nat.reduceAdd, Nat.reduceMul, Nat.reduceSub, Nat.reduceLT, Nat.reduceLeDiff, Int.reduceToNat, Int.reduceLT, Int.reduceLE, Int.reduceEq, Int.reduceAdd, Int.reduceSub, Int.reduceMul, Int.toNat_natCast, reduceCtorEq, decide_true, decide_false, IntWalk.i64_in, IntWalk.u64_in, IntWalk.u8_in, hwi, e, buildN]
    simp only [nodeV, cNd_mk, sign, slN, cNds_nil, List.length_nil]
  · have h3 : n % 3 = 0 ∨ n % 3 = 1 ∨ n % 3 = 2 := by omega
    rcases h3 with e3 | e3 | e3
    all_goals
      simp (disch := omega) only [go_sem, ↓IntWalk.iteOmega, IntWalk.toNatUp, Nat.reduceEqDiff, Nat.reduceAdd, Nat.reduceMul, Nat.reduceSub, Nat.reduceLT, Nat.reduceLeDiff, Int.reduceToNat, Int.reduceLT, Int.reduceLE, Int.reduceEq, Int.reduceAdd, Int.reduceSub, Int.reduceMul, Int.toNat_natCast, reduceCtorEq, decide_true, decide_false, IntWalk.i64_in, IntWalk.u64_in, IntWalk.u8_in, hwi, e, e3, buildN]
      simp only [nodeV, cNd_mk, slN, cNds_nil, List.length_nil]
  · simp (disch := omega) only [go_sem, ↓IntWalk.iteOmega, IntWalk.toNatUp, Nat.reduceEqDiff, Nat.reduceAdd, Nat.reduceMul, Nat.reduceSub, Nat.reduceLT, Nat.reduceLeDiff, Int.reduceToNat, Int.reduceLT, Int.reduceLE, Int.reduceEq, Int.reduceAdd, Int.reduceSub, Int.reduceMul, Int.toNat_natCast, reduceCtorEq, decide_true, decide_false, IntWalk.i64_in, IntWalk.u64_in, IntWalk.u8_in, hwi, e, buildN]
    refine join_loop k n l hpart X hp 4 _ _ _ _ (by omega) (by omega) rfl rfl rfl rfl rfl ⟨_, rfl, rfl⟩ rfl ?_
    rintro a o nx h2 ⟨v, ho2, hHS⟩
    simp (disch := omega) only [go_sem, ↓IntWalk.iteOmega, IntWalk.toNatUp, Nat.reduceEqDiff, Nat.reduceAdd, Nat.reduceMul, Nat.reduceSub, Nat.reduceLT, Nat.reduceLeDiff, Int.reduceToNat, Int.reduceLT, Int.reduceLE, Int.reduceEq, Int.reduceAdd, Int.reduceSub, Int.reduceMul, Int.toNat_natCast, reduceCtorEq, decide_true, decide_false, IntWalk.i64_in, IntWalk.u64_in, IntWalk.u8_in, h2, ho2]
    rw [hHS.view, nodeV, cNd_mk, slN, List.length_map, List.length_range, makeNs_length, view_cNds]
  · simp (disch := omega) only [go_sem, ↓IntWalk.iteOmega, IntWalk.toNatUp, Nat.reduceEqDiff, Nat.reduceAdd, Nat.reduceMul, Nat.reduceSub, Nat.reduceLT, Nat.reduceLeDiff, Int.reduceToNat, Int.reduceLT, Int.reduceLE, Int.reduceEq, Int.reduceAdd, Int.reduceSub, Int.reduceMul, Int.toNat_natCast, reduceCtorEq, decide_true, decide_false, IntWalk.i64_in, IntWalk.u64_in, IntWalk.u8_in, hwi, e, buildN]
    refine join_loop k n l hpart X hp 4 _ _ _ _ (by omega) (by omega) rfl rfl rfl rfl rfl ⟨_, rfl, rfl⟩ rfl ?_
    rintro a o nx h2 ⟨v, ho2, hHS⟩
    simp (disch := omega) only [go_sem, ↓IntWalk.iteOmega, IntWalk.toNatUp, Nat.reduceEqDiff, Nat.reduceAdd, Nat.reduceMul, Nat.reduceSub, Nat.reduceLT, Nat.reduceLeDiff, Int.reduceToNat, Int.reduceLT, Int.reduceLE, Int.reduceEq, Int.reduceAdd, Int.reduceSub, Int.reduceMul, Int.toNat_natCast, reduceCtorEq, decide_true, decide_false, IntWalk.i64_in, IntWalk.u64_in, IntWalk.u8_in, h2, ho2]
    rw [hHS.view, nodeV, cNd_mk, slN, List.length_map, List.length_range, makeNs_length, view_cNds]
  · simp (disch := omega) only [go_sem, ↓IntWalk.iteOmega, IntWalk.toNatUp, Nat.reduceEqDiff, Nat.reduceAdd, Nat.reduceMul, Nat.reduceSub, Nat.reduceLT, Nat.reduceLeDiff, Int.reduceToNat, Int.reduceLT, Int.reduceLE, Int.reduceEq, Int.reduceAdd, Int.reduceSub, Int.reduceMul, Int.toNat_natCast, reduceCtorEq, decide_true, decide_false, IntWalk.i64_in, IntWalk.u64_in, IntWalk.u8_in, hwi, e, buildN]
    refine join_loop k n l hpart X hp 4 _ _ _ _ (by omega) (by omega) rfl rfl rfl rfl rfl ⟨_, rfl, rfl⟩ rfl ?_
    rintro a o nx h2 ⟨v, ho2, hHS⟩
    simp (disch := omega) only [go_sem, ↓IntWalk.iteOmega, IntWalk.toNatUp, Nat.reduceEqDiff, Nat.reduceAdd, Nat.reduceMul, Nat.reduceSub, Nat.reduceLT, Nat.reduceLeDiff, Int.reduceToNat, Int.reduceLT, Int.reduceLE, Int.reduceEq, Int.reduceAdd, Int.reduceSub, Int.reduceMul, Int.toNat_natCast, reduceCtorEq, decide_true, decide_false, IntWalk.i64_in, IntWalk.u64_in, IntWalk.u8_in, h2, ho2]
    rw [hHS.view, nodeV, cNd_mk, slN, List.length_map, List.length_range, makeNs_length, view_cNds]
  · simp (disch := omega) only [go_sem, ↓IntWalk.iteOmega, IntWalk.toNatUp, Nat.reduceEqDiff, Nat.reduceAdd, Nat.reduceMul, Nat.reduceSub, Nat.reduceLT, Nat.reduceLeDiff, Int.reduceToNat, Int.reduceLT, Int.reduceLE, Int.reduceEq, Int.reduceAdd, Int.reduceSub, Int.reduceMul, Int.toNat_natCast, reduceCtorEq, decide_true, decide_false, IntWalk.i64_in, IntWalk.u64_in, IntWalk.u8_in, hwi, e, buildN]
    refine union_loop k n l hpart X hp 5 _ _ _ _ (by omega) (by omega) rfl rfl rfl rfl rfl ⟨_, rfl, rfl⟩ rfl ?_
    rintro a o nx h2 ⟨v, ho2, hHS⟩
    simp (disch := omega) only [go_sem, ↓IntWalk.iteOmega, IntWalk.toNatUp, Nat.reduceEqDiff, Nat.reduceAdd, Nat.reduceMul, Nat.reduceSub, Nat.reduceLT, Nat.reduceLeDiff, Int.reduceToNat, Int.reduceLT, Int.reduceLE, Int.reduceEq, Int.reduceAdd, Int.reduceSub, Int.reduceMul, Int.toNat_natCast, reduceCtorEq, decide_true, decide_false, IntWalk.i64_in, IntWalk.u64_in, IntWalk.u8_in, h2, ho2]
    rw [hHS.view, nodeV, cNd_mk, slN, List.length_map, List.length_range, makeNs_length, view_cNds]
  · simp (disch := omega) only [go_sem, ↓IntWalk.iteOmega, IntWalk.toNatUp, Nat.reduceEqDiff, Nat.reduceAdd, Nat.reduceMul, Nat.reduceSub, Nat.reduceLT, Nat.reduceLeDiff, Int.reduceToNat, Int.reduceLT, Int.reduceLE, Int.reduceEq, Int.reduceAdd, Int.reduceSub, Int.reduceMul, Int.toNat_natCast, reduceCtorEq, decide_true, decide_false, IntWalk.i64_in, IntWalk.u64_in, IntWalk.u8_in, hwi, e, buildN]
    refine union_loop k n l hpart X hp 5 _ _ _ _ (by omega) (by omega) rfl rfl rfl rfl rfl ⟨_, rfl, rfl⟩ rfl ?_
    rintro a o nx h2 ⟨v, ho2, hHS⟩
    simp (disch := omega) only [go_sem, ↓IntWalk.iteOmega, IntWalk.toNatUp, Nat.reduceEqDiff, Nat.reduceAdd, Nat.reduceMul, Nat.reduceSub, Nat.reduceLT, Nat.reduceLeDiff, Int.reduceToNat, Int.reduceLT, Int.reduceLE, Int.reduceEq, Int.reduceAdd, Int.reduceSub, Int.reduceMul, Int.toNat_natCast, reduceCtorEq, decide_true, decide_false, IntWalk.i64_in, IntWalk.u64_in, IntWalk.u8_in, h2, ho2]
    rw [hHS.view, nodeV, cNd_mk, slN, List.length_map, List.length_range, makeNs_length, view_cNds]
  · simp (disch := omega) only [go_sem, ↓IntWalk.iteOmega, IntWalk.toNatUp, Nat.reduceEqDiff, Nat.reduceAdd, Nat.reduceMul, Nat.reduceSub, Nat.reduceLT, Nat.reduceLeDiff, Int.reduceToNat, Int.reduceLT, Int.reduceLE, Int.reduceEq, Int.reduceAdd, Int.reduceSub, Int.reduceMul, Int.toNat_natCast, reduceCtorEq, decide_true, decide_false, IntWalk.i64_in, IntWalk.u64_in, IntWalk.u8_in, hwi, e, buildN, hp0]
    simp only [nodeV, cNd_mk, slN, cNds_one, List.length_cons, List.length_nil]
  · simp (disch := omega) only [go_sem, ↓IntWalk.iteOmega, IntWalk.toNatUp, Nat.reduceEqDiff, Nat.reduceAdd, Nat.reduceMul, Nat.reduceSub, Nat.reduceLT, Nat.reduceLeDiff, Int.reduceToNat, Int.reduceLT, Int.reduceLE, Int.reduceEq, Int.reduceAdd, Int.reduceSub, Int.reduceMul, Int.toNat_natCast, reduceCtorEq, decide_true, decide_false, IntWalk.i64_in, IntWalk.u64_in, IntWalk.u8_in, hwi, e, buildN, hp0]
    simp only [nodeV, cNd_mk, slN, cNds_one, List.length_cons, List.length_nil]
  · simp (disch := omega) only [go_sem, ↓IntWalk.iteOmega, IntWalk.toNatUp, Nat.reduceEqDiff, Nat.reduceAdd, Nat.reduceMul, Nat.reduceSub, Nat.reduceLT, Nat.reduceLeDiff, Int.reduceToNat, Int.reduceLT, Int.reduceLE, Int.reduceEq, Int.reduceAdd, Int.reduceSub, Int.reduceMul, Int.toNat_natCast, reduceCtorEq, decide_true, decide_false, IntWalk.i64_in, IntWalk.u64_in, IntWalk.u8_in, hwi, e, buildN, hp0]
    simp only [nodeV, cNd_mk, slN, cNds_one, List.length_cons, List.length_nil]
  · have h4 := Int.emod_nonneg n (show (4 : Int) ≠ 0 by decide)
    have h4' := Int.emod_lt_of_pos n (show (0 : Int) < 4 by decide)
    have h5 := Int.emod_nonneg (IntKind.i64.wrap (n.tdiv 4)) (show (3 : Int) ≠ 0 by decide)
    have h5' := Int.emod_lt_of_pos (IntKind.i64.wrap (n.tdiv 4)) (show (0 : Int) < 3 by decide)
    simp (disch := omega) only [go_sem, ↓IntWalk.iteOmega, IntWalk.toNatUp, Nat.reduceEqDiff, Nat.reduceAdd, Nat.reduceMul, Nat.reduceSub, Nat.reduceLT, Nat.reduceLeDiff, Int.reduceToNat, Int.reduceLT, Int.reduceLE, Int.reduceEq, Int.reduceAdd, Int.reduceSub, Int.reduceMul, Int.toNat_natCast, reduceCtorEq, decide_true, decide_false, IntWalk.i64_in, IntWalk.u64_in, IntWalk.u8_in, hwi, e, buildN, hp0, nz34]
    simp only [nodeV, cNd_mk, slN, cNds_one, List.length_cons, List.length_nil]
theorem rmake_ok : ∀ r : Rw, Ok Try.prog 14 [rawV r] (nodeV (makeN r))
  | .mk k n l => by
    rw [makeN]
    refine make1_ok k n l (fun i hi => part_ok k n l (fun j hj => ?_) i (by omega))
    have : SizeOf.sizeOf (l.getD j default) < 1 + SizeOf.sizeOf k + SizeOf.sizeOf n + SizeOf.sizeOf l := by
      rw [List.getD_eq_getElem?_getD, List.getElem?_eq_getElem hj, Option.getD_some]
      have := List.sizeOf_lt_of_mem (List.getElem_mem hj)
      omega
    exact rmake_ok (l.getD j default)
termination_by r => SizeOf.sizeOf r
decreasing_by
  simp only [Rw.mk.sizeOf_spec]; exact this
end Go.Proofs.Ytfmijoglolecgaa.A
